/- Stores and appends: how the environment goes on. What is read of a slice; append; texts and bytes; made slices. Append. Append, conversions, made slices, slices of slices, choices: as the evaluator has them. Made slices, choices, the greatest and least, arrays out of slices. Rows that are given up when they are laid into others' rows. An operation: what the evaluator says of it is what the model does. An operation hangs on its operands' values alone, and on the objects that they name. Conditions: none but those that each theorem states. -/
import Derived.Test.YtploofmfghjijaaGreatBA
import Derived.Deep.AppendSrc
import Derived.Laws.AppendOwn
import Derived.Lib.ConvBytes
import Derived.Laws.BytesArg
import Derived.Deep.Upon
namespace Go.Tr
open Go
set_option linter.unusedVariables false
set_option linter.unusedSimpArgs false
section
variable {W0:WX} {okIn B us:Nat->Prop} {tm:Nat->Option AV} {ob:Nat->Option AO} {nt:Nat} {E:Env} {a:Act}
theorem cK.set(he:jm W0 okIn B E){nm n:Nat}(hn:us n){w':World}{o:AO}
  (eJ:∀ b,b<E.w.heap.size->¬ cV E n b->w'.heap[b]? =E.w.heap[b]?) (cq:w'.heap.size=E.w.heap.size) (sA:w'.os=E.w.os) (yj:w'.tape=E.w.tape) (ny:w'.output=E.w.output)
  (ho:eO ⟨w',E.mu,E.ok⟩ n o) (yk:o.nm us):cK W0 okIn B us (eC us nm) E ⟨w',E.mu,E.ok⟩ [(n,some o)]:=by
 refine⟨fun n h=>.inl h,fun _ _=>rfl,fun n _ L' h=>⟨L',h,rfl,rfl,rfl⟩,?_,?_,?_,fun b h=>h,?_⟩
 ·intro m h
  rw[DR] at h
  split at h<;>simp at h
 ·intro m o' h
  rw[DR] at h
  split at h
  ·rename_i hm
   subst hm
   simp only[Option.some.injEq] at h
   subst h
   exact⟨ho,AO.nX (fun _ h=>.inl h) _ yk,.inl hn⟩
  ·simp at h
 ·intro b hb fV
  refine eJ b hb fun dS=>?_
  have:=fV n dS
  rw[DR,if_pos rfl] at this
  simp at this
 ·refine⟨fun n m b h1 h2=>he.inj n m b h1 h2,fun m b h=>?_,fun b hb=>?_,he.sr,fun b hb hB=>?_,by show _<=w'.heap.size;rw[cq];exact he.sz,he.new,sA.trans he.os,yj.trans he.tape,ny.trans he.output,he.li⟩
  ·have:=he.own m b h
   exact⟨this.1,by show b<w'.heap.size;rw[cq];exact this.2.1,this.2.2⟩
  ·have:=he.iR b hb
   exact⟨by show b<w'.heap.size;rw[cq];exact this.1,this.2⟩
  ·show w'.heap[b]? =_
   have:=he.sz
   rw[eJ b (by omega) fun dS=>hB (he.own n b dS).1]
   exact he.fr b hb hB
theorem MJ{α:Type}{n nm m:Nat}{x y:α}:aQ [(n,x),(nm,y)] m=if m=n then some x else if m=nm then some y else none:=by
 simp only[aQ]
 by_cases h:m=n
 ·subst h;simp[eV]
 ·simp only[Q0 h,h,if_false]
  by_cases h2:m=nm
  ·subst h2;simp[eV]
  ·simp[Q0 h2,h2]
theorem cK.move(he:jm W0 okIn B E)(jF:∀ n,n<16->us n){nm n:Nat}(cO:¬ us nm)(hn:us n){w':World}{L:Loc}{o:AO}
  (eJ:∀ b,b<E.w.heap.size->¬ cV E n b->w'.heap[b]? =E.w.heap[b]?) (cq:E.w.heap.size<=w'.heap.size) (sA:w'.os=E.w.os) (yj:w'.tape=E.w.tape) (ny:w'.output=E.w.output)
  (hL:L.own=true->∃ b,L.base=some ⟨b,0,none⟩/\b<w'.heap.size/\(E.w.heap.size<=b\/cV E n b))
  (ho:eO ⟨w',gT (gT E.mu n none) nm (some L),E.ok⟩ nm o) (yk:o.nm us):
  cK W0 okIn B us (eC us nm) E ⟨w',gT (gT E.mu n none) nm (some L),E.ok⟩ [(n,none),(nm,some o)]:=by
 have eW:n≠nm:=fun h=>cO (h▸hn)
 have gp:∀ m,m≠n->m≠nm->gT (gT E.mu n none) nm (some L) m=E.mu m:=fun m h1 h2=>by rw[yi _ _ h2,yi _ _ h1]
 have MK:gT (gT E.mu n none) nm (some L) n=none:=by rw[yi _ _ eW,jV]
 have dS:∀ m b,cV ⟨w',gT (gT E.mu n none) nm (some L),E.ok⟩ m b->(m=nm/\b<w'.heap.size/\(E.w.heap.size<=b\/cV E n b))\/(m≠nm/\m≠n/\cV E m b):=by
  intro m b hb
  obtain⟨L',h1,h2,h3⟩:=hb
  by_cases hm:m=nm
  ·subst hm
   simp only[jV,Option.some.injEq] at h1
   subst h1
   obtain⟨b',g1,g2,g3⟩:=hL h2
   rw[h3] at g1
   simp only[Option.some.injEq,Addr.mk.injEq,and_true] at g1
   subst g1
   exact .inl ⟨rfl,g2,g3⟩
  ·by_cases wD:m=n
   ·subst wD
    simp only[MK,reduceCtorEq] at h1
   ·simp only[gp m wD hm] at h1
    exact .inr ⟨hm,wD,L',h1,h2,h3⟩
 refine⟨fun n h=>.inl h,?_,?_,?_,?_,?_,fun b h=>h,?_⟩
 ·intro m h
  rw[MJ] at h
  split at h
  ·simp at h
  ·rename_i h1
   split at h
   ·simp at h
   ·rename_i h2;exact gp m h1 h2
 ·intro m hm L' h
  have wD:m≠nm:=fun hh=>cO (hh▸hm)
  by_cases AG:m=n
  ·subst AG
   simp only[MK,reduceCtorEq] at h
  ·simp only[gp m AG wD] at h
   exact⟨L',h,rfl,rfl,rfl⟩
 ·intro m h
  rw[MJ] at h
  split at h
  ·rename_i h1;subst h1;exact MK
  ·split at h<;>simp at h
 ·intro m o' h
  rw[MJ] at h
  split at h
  ·simp at h
  ·split at h
   ·rename_i h2
    subst h2
    simp only[Option.some.injEq] at h
    subst h
    exact⟨ho,AO.nX (fun _ h=>.inl h) _ yk,oY⟩
   ·simp at h
 ·intro b hb fV
  refine eJ b hb fun dS=>?_
  have:=fV n dS
  rw[MJ,if_pos rfl] at this
  simp at this
 ·refine⟨?_,?_,?_,he.sr,?_,?_,he.new,sA.trans he.os,yj.trans he.tape,ny.trans he.output,?_⟩
  ·intro m k b h1 h2
   rcases dS m b h1 with⟨rfl,h3,h4⟩ | ⟨h3,jH,h4⟩<;>rcases dS k b h2 with⟨rfl,h5,h6⟩ | ⟨h5,h5',h6⟩
   ·rfl
   ·rcases h4 with h4 | h4
    ·have:=(he.own k b h6).2.1;omega
    ·exact absurd (he.inj n k b h4 h6).symm h5'
   ·rcases h6 with h6 | h6
    ·have:=(he.own m b h4).2.1;omega
    ·exact absurd (he.inj n m b h6 h4).symm jH
   ·exact he.inj m k b h4 h6
  ·intro m b h1
   rcases dS m b h1 with⟨rfl,h3,h4⟩ | ⟨h3,jH,h4⟩
   ·rcases h4 with h4 | h4
    ·refine⟨he.new b (by have:=he.sz;omega),h3,fun cR=>?_⟩
     have:=(he.iR b cR).1;omega
    ·have:=he.own n b h4
     exact⟨this.1,h3,this.2.2⟩
   ·obtain⟨g1,g2,g3⟩:=he.own m b h4
    exact⟨g1,by show b<w'.heap.size;omega,g3⟩
  ·intro b hb
   obtain⟨g1,g2⟩:=he.iR b hb
   exact⟨by show b<w'.heap.size;omega,g2⟩
  ·intro b hb hB
   have:=he.sz
   show w'.heap[b]? =_
   rw[eJ b (by omega) fun dS=>hB (he.own n b dS).1]
   exact he.fr b hb hB
  ·exact Nat.le_trans he.sz cq
  ·intro m L' h hm
   have zmN:m≠nm:=fun hh=>cO (hh▸jF m hm)
   by_cases AG:m=n
   ·subst AG
    simp only[MK,reduceCtorEq] at h
   ·simp only[gp m AG zmN] at h
    exact he.li m L' h hm
theorem YL(he:jm W0 okIn B E){n:Nat}{w':World}(eJ:∀ b,b<E.w.heap.size->¬ cV E n b->w'.heap[b]? =E.w.heap[b]?):u0 us E ⟨w',E.mu,E.ok⟩:=
 ⟨fun b hb=>eJ b (he.iR b hb).1 fun dS=>(he.own n b dS).2.2 hb,fun b h=>h,fun n hn L' h=>⟨L',h,rfl,rfl,rfl⟩⟩
theorem AH(he:jm W0 okIn B E){n:Nat}{w':World}(eJ:∀ b,b<E.w.heap.size->¬ cV E n b->w'.heap[b]? =E.w.heap[b]?):∀ b,E.ok b->w'.heap[b]? =E.w.heap[b]? :=
 fun b hb=>eJ b (he.iR b hb).1 fun dS=>(he.own n b dS).2.2 hb
theorem leaf_one{v:Value}(h:eL v):v.oneCell'=true:=by cases v<;>simp[eL] at h<;>rfl
theorem wE{P:Program}(b:Nat)(T:TypeId)(fr:Nat×Nat):∀ (vs:List Value) (o i:Nat) (cs:Array Value) (w:World),w.heap[b]? =some (.cells cs T fr)->G1 fr cs.size->o+i+vs.length<=cs.size->(∀ v∈vs,eL v)->
  (storeCells ⟨b,o,none⟩ vs i).run P w=.ok () (w.setRow b (cs.toList.take (o+i)++vs++cs.toList.drop (o+i+vs.length)).toArray)
 | [],o,i,cs,w,hg,_,_,_=>by
  simp only[storeCells,List.append_nil,List.length_nil,Nat.add_zero,List.take_append_drop,Array.toArray_toList]
  rw[setRow_self w b cs T fr hg]
  rfl
 | v::rest,o,i,cs,w,hg,hfz,hl,h1=>by
  have hi:o+i<cs.size:=by simp at hl;omega
  have hcell:w.cell? ⟨b,o+i,none⟩=some cs[o+i]:=by simp[World.cell?,hg,hi]
  have hfro:w.frozen? ⟨b,o+i,none⟩=false:=by
   have:=hfz (o+i) hi
   simp only[World.frozen?,hg]
   by_cases h:fr.1<=o+i
   ·have h2:¬ (o+i<fr.2):=fun hh=>this ⟨h,hh⟩
    simp[h2]
   ·simp[h]
  have hst:(store ((⟨b,o,none⟩:Addr).add i) v).run P w=.ok () (w.setRow b (cs.setIfInBounds (o+i) v)):=by
   rw[jc,run_store P w _ v _ (leaf_one (h1 v (by simp))),hcell]
   simp[hfro,setCell_eq_setRow w b (o+i) cs T fr v hg]
  have ih:=wE (P:=P) b T fr rest o (i+1) (cs.setIfInBounds (o+i) v) (w.setRow b (cs.setIfInBounds (o+i) v)) (setRow_heap w b cs _ T _ hg) (by simpa using hfz) (by simp at hl ⊢;omega) (fun x hx=>h1 x (by simp[hx]))
  simp only[storeCells,Sem.run_bind,hst,Result.andThen_ok,ih,setRow_setRow]
  congr 3
  have e:=list_seg_step cs.toList (o+i) v rest (by simp at hl ⊢;omega)
  simpa [Array.toList_setIfInBounds,Nat.add_assoc] using e
theorem qN{α:Type}(l v:List α)(p k:Nat)(h:p+v.length<=l.length):
  (l.take p++v++l.drop (p+v.length))[k]? =if k<p then l[k]? else if k<p+v.length then v[k-p]? else l[k]? :=by
 have h1:(l.take p).length=p:=by simp;omega
 rw[List.append_assoc,List.getElem?_append,h1]
 split
 ·rename_i hk;rw[List.getElem?_take,if_pos hk]
 ·rename_i hk
  rw[List.getElem?_append]
  split
  ·rename_i hk2
   rw[if_pos (by omega)]
  ·rename_i hk2
   rw[if_neg (by omega),List.getElem?_drop]
   congr 1
   omega
theorem ML{α:Type}(l v:List α)(i s off:Nat)(h:i*s+s<=l.length)(hv:off+v.length<=s):
  ((l.take (i*s+off)++v++l.drop (i*s+off+v.length)).drop (i*s)).take s=((l.drop (i*s)).take s).take off++v++((l.drop (i*s)).take s).drop (off+v.length):=by
 apply List.ext_getElem?
 intro m
 rw[qN _ _ _ _ (by simp;omega)]
 simp only[List.getElem?_take,List.getElem?_drop]
 rw[qN _ _ _ _ (by omega)]
 by_cases m1:m<s
 ·by_cases m2:m<off
  ·simp[m1,m2]
  ·by_cases m3:m<off+v.length
   ·simp[m1,m2,m3,show i*s+m<i*s+off+v.length by omega,show i*s+m-(i*s+off)=m-off by omega]
   ·simp[m1,m2,m3,show ¬ i*s+m<i*s+off+v.length by omega]
 ·rw[if_neg m1,if_neg (by omega),if_neg (by omega),if_neg m1]
theorem MM{α:Type}(l v:List α)(i j s off:Nat)(h:i*s+s<=l.length)(hv:off+v.length<=s)(hj:j≠i):
  ((l.take (i*s+off)++v++l.drop (i*s+off+v.length)).drop (j*s)).take s=(l.drop (j*s)).take s:=by
 apply List.ext_getElem?
 intro m
 simp only[List.getElem?_take,List.getElem?_drop]
 rw[qN _ _ _ _ (by omega)]
 by_cases m1:m<s
 ·rw[if_pos m1,if_pos m1]
  rcases Nat.lt_or_gt_of_ne hj with hlt | DV
  ·have:=Nat.mul_le_mul_right s (show j+1<=i by omega)
   rw[Nat.add_mul] at this
   rw[if_pos (by omega)]
  ·have:=Nat.mul_le_mul_right s (show i+1<=j by omega)
   rw[Nat.add_mul] at this
   rw[if_neg (by omega),if_neg (by omega)]
 ·rw[if_neg m1,if_neg m1]
theorem setRow_size(w:World)(b:Nat)(cs:Array Value):(w.setRow b cs).heap.size=w.heap.size:=by simp[World.setRow]
theorem YM{P:Program}(hs:df W0 okIn B us tm ob nt E a){nm:Nat}{T:TypeId}{x y:AV}{v z:Value}{q:List Prop}{u:cx}(h:Al P T ob x y=some (q,u))(hq:∀ p∈q,p)
  (hx:VR E x v) (hy:VR E y z) (hn:y.nm us):∃ E',(Instr.storeAt T v z).run P E.w=.ok () E'.w/\cK W0 okIn B us (eC us nm) E E' u:=by
 unfold Al at h
 split at h
 ·rename_i cs sz gq cq
  split at h
  ·rename_i hb
   have hlen:=beq_true hb
   rw[lS] at hlen
   obtain⟨g1,g2,g3⟩:=Hr gq hy
   have kL:=g1.length
   have iu:z.cells.size=sz:=by simp at kL;omega
   have dE:∀ ad:Addr,(Instr.storeAt T (.pointer (some ad)) z).run P E.w=(storeCells ad z.cells.toList).run P E.w:=by
    intro ad
    simp[Instr.storeAt,Instr.sureAddr,storeVar,kd E.w cq,iu]
   split at h
   ·rename_i n off
    split at h
    ·rename_i l b8
     split at h
     ·rename_i l' jW
      rw[DK] at h
      simp only[Option.some.injEq,Prod.mk.injEq] at h
      obtain⟨rfl,rfl⟩:=h
      obtain⟨h1,h2,h3⟩:=hs.obj n _ b8
      obtain⟨b,cells,T',fr,k1,k2,k3,k4⟩:=h1
      simp only[VR] at hx
      obtain⟨b',cL,rfl⟩:=hx.2 _ k1
      simp only[Option.some.injEq,Addr.mk.injEq,and_true] at cL
      subst cL
      have dS:cV E n b:=⟨_,k1,rfl,rfl⟩
      have hle:=(Hs jW).1
      have dh:=k4.length
      have qb:off+0+z.cells.toList.length<=cells.size:=by simp at dh kL ⊢;omega
      have hst:=wE (P:=P) b T' fr z.cells.toList off 0 cells E.w k2 k3 qb g2
      simp only[Nat.add_zero] at hst qb
      have eJ:∀ c,c<E.w.heap.size->¬ cV E n c->(E.w.setRow b (cells.toList.take off++z.cells.toList++cells.toList.drop (off+z.cells.toList.length)).toArray).heap[c]? =E.w.heap[c]? :=
       fun c hc fV=>setRow_other _ _ _ _ fun lV=>fV (lV▸dS)
      refine⟨⟨_,E.mu,E.ok⟩,by rw[dE];exact hst,cK.set hs.env h3 eJ (setRow_size _ _ _) rfl rfl rfl ?_ (MH jW (g3 us hn) h2)⟩
      refine⟨b,_,T',fr,k1,setRow_heap E.w b cells _ T' fr k2,?_,?_⟩
      ·intro i hi
       refine k3 i ?_
       simp at hi
       simp at qb
       omega
      ·exact aR.mono (YL hs.env eJ) _ _ (MH jW (g3 us hn) h2) (by simpa using MG jW g1 k4)
     ·simp at h
    ·simp at h
   ·rename_i n off i m
    split at h
    ·rename_i l c b8
     split at h
     ·rename_i hb
      split at h
      ·rename_i l1 hw
       split at h
       ·rename_i l' jW
        rw[DK] at h
        simp only[Option.some.injEq,Prod.mk.injEq] at h
        obtain⟨rfl,rfl⟩:=h
        obtain⟨h1,h2,h3⟩:=hs.obj n _ b8
        obtain⟨b,cells,T',fr,k1,k2,k3,k4⟩:=h1
        simp only[VR] at hx
        obtain⟨sy,_,hx⟩:=hx
        obtain⟨b',cL,rfl⟩:=hx _ k1
        simp only[Option.some.injEq,Addr.mk.injEq,and_true] at cL
        subst cL
        have dS:cV E n b:=⟨_,k1,rfl,rfl⟩
        have zmO:=Nat.le_of_ble_eq_true hb
        rw[lS] at zmO
        rw[yd,ye] at hw
        have dh:=k4.length
        simp at dh
        
        simp only[aR] at g1
        obtain⟨z0,zr,AI,kf,o8⟩:=g1
        subst o8
        have Hv:=zmp hw ((k4.drop off).take m) kf (by simp;omega)
        have tK:z.cells.toList.length=1:=by rw[AI];rfl
        have qb:(off+i)+0+z.cells.toList.length<=cells.size:=by rw[tK];omega
        have hst:=wE (P:=P) b T' fr z.cells.toList (off+i) 0 cells E.w k2 k3 qb g2
        simp only[Nat.add_zero] at hst qb
        have yn:cells.toList.take (off+i)++z.cells.toList++cells.toList.drop (off+i+z.cells.toList.length)=cells.toList.take off++((cells.toList.drop off).take m).set i z0++cells.toList.drop (off+m):=by
         rw[AI]
         have e1:cells.toList.take (off+i)++[z0]++cells.toList.drop (off+i+[z0].length)=cells.toList.set (off+i) z0:=by
          rw[List.set_eq_take_append_cons_drop,if_pos (by simp;omega)]
          simp
         have e2:cells.toList.take off++(cells.toList.drop off).take m++cells.toList.drop (off+m)=cells.toList:=by
          rw[List.append_assoc,<-List.drop_drop,List.take_append_drop,List.take_append_drop]
         rw[e1]
         conv=>lhs;rw[<-e2]
         have e3:off+i-(cells.toList.take off).length=i:=by rw[List.length_take,Array.length_toList];omega
         rw[List.append_assoc,List.set_append_right _ _ (by rw[List.length_take,Array.length_toList];omega),e3,List.set_append_left _ _ (by simp;omega),List.append_assoc]
        rw[yn] at hst
        have eJ:∀ c,c<E.w.heap.size->¬ cV E n c->(E.w.setRow b (cells.toList.take off++((cells.toList.drop off).take m).set i z0++cells.toList.drop (off+m)).toArray).heap[c]? =E.w.heap[c]? :=
         fun c hc fV=>setRow_other _ _ _ _ fun lV=>fV (lV▸dS)
        have YN:AV.cI us l':=MH jW (Hv.2 us) h2
        refine⟨⟨_,E.mu,E.ok⟩,by rw[dE];exact hst,cK.set hs.env h3 eJ (setRow_size _ _ _) rfl rfl rfl ?_ YN⟩
        refine⟨b,_,T',fr,k1,setRow_heap E.w b cells _ T' fr k2,?_,?_⟩
        ·intro j hj
         refine k3 j ?_
         simp at hj
         omega
        ·have zmP:(((cells.toList.drop off).take m).set i z0).length=m:=by simp;omega
         have hh:=MG jW Hv.1 k4
         rw[zmP] at hh
         exact aR.mono (YL hs.env eJ) _ _ YN (by simpa using hh)
       ·simp at h
      ·simp at h
     ·simp at h
    ·simp at h
   ·rename_i n e i off
    split at h
    ·rename_i hf
     split at h
     ·rename_i e' xs b8
      split at h
      ·rename_i he
       subst he
       split at h
       ·rename_i l' jW
        split at h
        ·rename_i t DW
         simp only[Option.some.injEq,Prod.mk.injEq] at h
         obtain⟨rfl,rfl⟩:=h
         have hi:i<xs.length:=hq _ (List.Mem.head _)
         obtain⟨h1,h2,h3⟩:=hs.obj n _ b8
         obtain⟨L,k1,kl,k2⟩:=h1
         rcases k2 with k2 | ⟨b,cells,T',fr,k3,k4,k5,k6,k7,k8,k9⟩
         ·omega
         ·simp only[VR] at hx
          obtain⟨b',cL,rfl⟩:=hx.2 _ k1
          rw[k3] at cL
          simp only[Option.some.injEq,Addr.mk.injEq,and_true] at cL
          subst cL
          have dS:cV E n b:=⟨_,k1,k4,k3⟩
          rw[getD_eq hi] at jW
          have DX:=tJ (E:=E) e' hf _ _ (k9 i hi)
          have hle:=(Hs jW).1
          have dh:=DX.length
          have o7:i*e'.size+e'.size<=cells.size:=by
           have:=Nat.mul_le_mul_right e'.size (show i+1<=L.cap by omega)
           rw[Nat.add_mul i 1] at this;omega
          have u7:((cells.toList.drop (i*e'.size)).take e'.size).length=e'.size:=by simp;omega
          have qb:i*e'.size+off+0+z.cells.toList.length<=cells.size:=by rw[u7] at dh;simp at kL ⊢;omega
          have hst:=wE (P:=P) b T' fr z.cells.toList (i*e'.size+off) 0 cells E.w k5 k8 qb g2
          simp only[Nat.add_zero] at hst qb
          have eJ:∀ c,c<E.w.heap.size->¬ cV E n c->(E.w.setRow b (cells.toList.take (i*e'.size+off)++z.cells.toList++cells.toList.drop (i*e'.size+off+z.cells.toList.length)).toArray).heap[c]? =E.w.heap[c]? :=
           fun c hc fV=>setRow_other _ _ _ _ fun lV=>fV (lV▸dS)
          have cR:=AH hs.env eJ
          refine⟨⟨_,E.mu,E.ok⟩,by rw[dE];exact hst,cK.set hs.env h3 eJ (setRow_size _ _ _) rfl rfl rfl ?_ (by simp[AO.nm])⟩
          have yo:(cells.toList.take (i*e'.size+off)++z.cells.toList++cells.toList.drop (i*e'.size+off+z.cells.toList.length)).length=cells.size:=by
           simp
           simp at qb
           omega
          have tK:off+z.cells.toList.length<=e'.size:=by rw[u7] at dh;simp at kL ⊢;omega
          refine⟨L,k1,by simpa using kl,.inr ⟨b,_,T',fr,k3,k4,setRow_heap E.w b cells _ T' fr k5,by simpa [k6] using yo,by simpa using k7,?_,?_⟩⟩
          ·intro j hj
           exact k8 j (by rw[List.size_toArray,yo] at hj;exact hj)
          ·intro j hj
           refine aN.mono cR (fun _ h=>h) _ _ _ ?_
           simp only[List.length_set] at hj
           by_cases lW:j=i
           ·subst lW
            simp only[List.getElem_set_self]
            have:=DS DW (MG jW g1 DX)
            rw[List.toList_toArray,ML _ _ _ _ _ (by simpa using o7) tK]
            exact this
           ·simp only[List.getElem_set_ne (Ne.symm lW)]
            rw[List.toList_toArray,MM _ _ _ _ _ _ (by simpa using o7) tK lW]
            exact k9 j hj
        ·simp at h
       ·simp at h
      ·simp at h
     ·simp at h
    ·simp at h
   ·simp at h
  ·simp at h
 ·simp at h
end
section
variable {W0:WX} {okIn B us:Nat->Prop} {tm:Nat->Option AV} {ob:Nat->Option AO} {nt:Nat} {E:Env} {a:Act}
def Rd(w:World)(ok yp:Nat->Prop)(e:Sh)(xs:List e.T)(v:Value):Prop:=
 ∃ base cap,v=.slice base xs.length cap/\xs.length<=cap/\(xs.length=0\/∃ b o,base=some ⟨b,o,none⟩/\yp b/\∀ i (h:i<xs.length),∃ cs,cs.length=e.size/\Row w b (o+i*e.size) cs/\aN w ok e (xs[i]'h) cs)
def okV(E:Env)(x:AV)(b:Nat):Prop:=E.ok b\/∃ n,x.has n=true/\cV E n b
theorem Rd.Rm{w:World}{ok:Nat->Prop}{e:Sh}{xs:List e.T}{v:Value}(h:aN w ok (.sl e) xs [v]):Rd w ok ok e xs v:=by
 simp only[aN] at h
 obtain⟨base,cap,hv,hc,h⟩:=h
 simp only[List.cons.injEq,and_true] at hv
 subst hv
 refine⟨base,cap,rfl,hc,?_⟩
 rcases h with h | ⟨b,o,h1,h2,h3⟩
 ·exact .inl h
 ·exact .inr ⟨b,o,h1,h2,h3⟩
theorem Rd.AJ{w:World}{ok yp YO:Nat->Prop}{e:Sh}{xs:List e.T}{v:Value}(h:Rd w ok yp e xs v)(hb:∀ b,yp b->YO b):Rd w ok YO e xs v:=by
 obtain⟨base,cap,h1,h2,h3⟩:=h
 refine⟨base,cap,h1,h2,?_⟩
 rcases h3 with h3 | ⟨b,o,h4,h5,h6⟩
 ·exact .inl h3
 ·exact .inr ⟨b,o,h4,hb _ h5,h6⟩
theorem MN{α:Type}{lo hi:Nat}{xs:List α}(h1:lo<=hi)(h:hi<=xs.length):(cE lo hi xs).length=hi-lo:=by
 simp[cE];omega
theorem MO{α:Type}{lo hi:Nat}{xs:List α}{i:Nat}(h:hi<=xs.length)(dD:i<(cE lo hi xs).length):(cE lo hi xs)[i]=xs[lo+i]'(by simp[cE] at dD;omega):=by
 simp[cE]
theorem Rn{e:Sh}:∀ {l:List AV} {vs:List Value} {i:Nat} {ts:List e.T},sc e i (Ds i l)=some ts->aR E l vs->(∀ v∈vs,eL v)->
  ts.length=l.length/\∀ j (h:j<ts.length) (h':j<vs.length),aN E.w E.ok e (ts[j]'h) [vs[j]'h']/\e.size=1
 | [],vs,i,ts,h,hv,_=>by
  simp only[Ds,sc,Option.some.injEq] at h
  subst h
  exact⟨rfl,fun j hj=>by simp at hj⟩
 | x::l,vs,i,ts,h,hv,qa=>by
  simp only[aR] at hv
  obtain⟨v,r,rfl,fI,hr⟩:=hv
  simp only[Ds] at h
  unfold sc at h
  split at h
  ·rename_i t hb wA
   ·split at h
    ·rename_i ts' Rk
     simp only[Option.some.injEq] at h
     subst h
     have hl:=YF wA fI
     rw[YC (qa v (by simp))] at hl
     obtain⟨k1,k2⟩:=Rn Rk hr (fun y hy=>qa y (by simp[hy]))
     refine⟨by simp[k1],fun j hj ly=>?_⟩
     cases j with
     | zero=>exact⟨hl,by have:=aN.length e _ _ hl;simpa using this.symm⟩
     | succ j=>exact k2 j (by simpa using hj) (by simpa using ly)
    ·simp at h
  ·simp at h
theorem Hw(hs:qK E us ob){x:AV}{v:Value}{e:Sh}{xs:List e.T}{q:List Prop}(h:uT ob e x=some (xs,q))(hq:∀ p∈q,p)(hx:VR E x v):Rd E.w E.ok (okV E x) e xs v:=by
 unfold uT at h
 split at h
 ·split at h
  ·rename_i he
   subst he
   simp only[Option.some.injEq,Prod.mk.injEq] at h
   obtain⟨rfl,rfl⟩:=h
   simp only[VR] at hx
   exact (Rd.Rm hx).AJ fun b hb=>.inl hb
  ·simp at h
 ·simp only[Option.some.injEq,Prod.mk.injEq] at h
  obtain⟨rfl,rfl⟩:=h
  simp only[VR] at hx
  exact⟨none,0,hx,Nat.le_refl _,.inl rfl⟩
 ·rename_i n e1 off len
  split at h
  ·rename_i e' ys b8
   split at h
   ·rename_i he
    subst he
    split at h
    case isFalse=>simp at h
    rename_i he
    subst he
    simp only[Option.some.injEq,Prod.mk.injEq] at h
    obtain⟨rfl,rfl⟩:=h
    have hle:off+len<=ys.length:=hq _ (List.Mem.head _)
    obtain⟨h1,h2,h3⟩:=hs.obj n _ b8
    obtain⟨L,g1,_,g2⟩:=h1
    simp only[VR] at hx
    obtain⟨base,rfl,k1,k2,k3⟩:=hx.2 L g1
    have hlen:(cE off (off+len) ys).length=len:=by rw[MN (by omega) hle];omega
    refine⟨base,L.cap-off,by rw[hlen],by rw[hlen];omega,?_⟩
    by_cases h0:len=0
    ·exact .inl (by rw[hlen];exact h0)
    ·refine .inr ?_
     rcases g2 with g2 | ⟨b,cs,T,fr,f1,f2,f3,f4,f5,f6,f7⟩
     ·omega
     ·refine⟨b,off*e1.size,?_,.inr ⟨n,by simp[AV.has,eV],L,g1,f2,f1⟩,fun i hi=>?_⟩
      ·rw[k3 (by omega),f1];simp[jc]
      ·rw[MO hle hi]
       have dD:off+i<ys.length:=by rw[hlen] at hi;omega
       refine⟨_,?_,?_,f7 (off+i) dD⟩
       ·exact aN.length e1 _ _ (f7 (off+i) dD)
       ·have fx:=((pZ f3).drop ((off+i)*e1.size)).take e1.size
        rw[Nat.zero_add,Nat.add_mul] at fx
        rw[Nat.add_mul]
        exact fx
   ·simp at h
  ·rename_i e' ys b8
   split at h
   ·rename_i he
    subst he
    split at h
    case isFalse=>simp at h
    rename_i he
    subst he
    simp only[Option.some.injEq,Prod.mk.injEq] at h
    obtain⟨rfl,rfl⟩:=h
    have hle:off+len<=ys.length:=hq _ (List.Mem.head _)
    obtain⟨h1,h2,h3⟩:=hs.obj n _ b8
    obtain⟨L,g1,_,g2,g3,g4⟩:=h1
    simp only[VR] at hx
    obtain⟨base,rfl,k1,k2,k3⟩:=hx.2 L g1
    have hlen:(cE off (off+len) ys).length=len:=by rw[MN (by omega) hle];omega
    refine⟨base,L.cap-off,by rw[hlen],by rw[hlen];omega,?_⟩
    by_cases h0:len=0
    ·exact .inl (by rw[hlen];exact h0)
    ·refine .inr ?_
     have hr:=Rd.Rm g4
     obtain⟨zF2,zF3,hv,_,hh⟩:=hr
     simp only[Value.slice.injEq] at hv
     obtain⟨rfl,_,rfl⟩:=hv
     rcases hh with hh | ⟨b,o,f1,f0,f2⟩
     ·omega
     ·refine⟨b,o+off*e1.size,?_,.inl f0,fun i hi=>?_⟩
      ·rw[k3 (by omega),f1];simp[jc]
      ·rw[MO hle hi]
       have dD:off+i<ys.length:=by rw[hlen] at hi;omega
       obtain⟨cs,c1,c2,c3⟩:=f2 (off+i) dD
       refine⟨cs,c1,?_,c3⟩
       rw[Nat.add_mul] at c2
       rw[Nat.add_assoc]
       exact c2
   ·simp at h
  ·simp at h
 ·rename_i n e1
  split at h
  ·rename_i e' ys b8
   split at h
   ·rename_i he
    subst he
    split at h
    case isFalse=>simp at h
    rename_i he
    subst he
    simp only[Option.some.injEq,Prod.mk.injEq] at h
    obtain⟨rfl,rfl⟩:=h
    obtain⟨h1,h2,h3⟩:=hs.obj n _ b8
    obtain⟨L0,k1,rfl,k2,_⟩:=AD (.inl h1) hx
    obtain⟨L,g1,gl,g2⟩:=h1
    obtain rfl:L0=L:=Option.some.inj (k1.symm.trans g1)
    refine⟨L0.base,L0.cap,rfl,k2,?_⟩
    rcases g2 with g2 | ⟨b,cs,T,fr,f1,f2,f3,f4,f5,f6,f7⟩
    ·exact .inl g2.2.1
    ·refine .inr ⟨b,0,f1,.inr ⟨n,by simp[AV.has,eV],L0,g1,f2,f1⟩,fun i hi=>?_⟩
     refine⟨_,aN.length e1 _ _ (f7 i hi),?_,f7 i hi⟩
     exact ((pZ f3).drop (i*e1.size)).take e1.size
   ·simp at h
  ·rename_i e' ys b8
   split at h
   ·rename_i he
    subst he
    split at h
    case isFalse=>simp at h
    rename_i he
    subst he
    simp only[Option.some.injEq,Prod.mk.injEq] at h
    obtain⟨rfl,rfl⟩:=h
    obtain⟨h1,h2,h3⟩:=hs.obj n _ b8
    obtain⟨L0,k1,rfl,k2,_⟩:=AD (.inr h1) hx
    obtain⟨L,g1,gl,g2,g3,g4⟩:=h1
    obtain rfl:L0=L:=Option.some.inj (k1.symm.trans g1)
    exact (Rd.Rm g4).AJ fun b hb=>.inl hb
   ·simp at h
  ·simp at h
 ·rename_i n off len
  split at h
  ·rename_i l b8
   split at h
   ·rename_i ts hb wz hl
    simp only[Option.some.injEq,Prod.mk.injEq] at h
    obtain⟨rfl,rfl⟩:=h
    have hle:=Nat.le_of_ble_eq_true hb
    rw[lS] at hle
    rw[yd,ye] at hl wz
    obtain⟨h1,h2,h3⟩:=hs.obj n _ b8
    obtain⟨b,cs,T,fr,g1,g2,g3,g4⟩:=h1
    simp only[VR] at hx
    obtain⟨b',o,cap,cL,rfl,k1,k2⟩:=hx.2 _ g1
    simp only[Option.some.injEq,Addr.mk.injEq,and_true] at cL
    subst cL
    have dh:=g4.length
    obtain⟨f1,f2⟩:=Rn hl ((g4.drop off).take len) (Hq wz ((g4.drop off).take len))
    have hlen:ts.length=len:=by rw[f1];simp;omega
    refine⟨some ⟨b,o,none⟩,cap,by rw[hlen],by rw[hlen];exact k1,?_⟩
    by_cases h0:len=0
    ·exact .inl (by omega)
    ·refine .inr ⟨b,o,rfl,.inr ⟨n,by simp[AV.has,eV],_,g1,rfl,rfl⟩,fun i hi=>?_⟩
     have Hx:o=off:=k2 (by omega)
     subst Hx
     have dD:i<((cs.toList.drop o).take len).length:=by simp at dh ⊢;omega
     obtain⟨m1,m2⟩:=f2 i hi dD
     refine⟨_,by simp[m2],?_,m1⟩
     intro j hj
     have o9:j=0:=by simp at hj;exact hj
     subst o9
     have fx:=pZ g2 (o+i) (by simp at dD ⊢;omega)
     simp only[List.getElem_cons_zero,Nat.add_zero,m2,Nat.mul_one]
     simp only[Nat.zero_add] at fx
     rw[fx]
     simp
   ·simp at h
  ·rename_i l b8
   split at h
   ·rename_i ts hb wz hl
    simp only[Option.some.injEq,Prod.mk.injEq] at h
    obtain⟨rfl,rfl⟩:=h
    have hle:=Nat.le_of_ble_eq_true hb
    rw[lS] at hle
    rw[yd,ye] at hl wz
    obtain⟨h1,h2,h3⟩:=hs.obj n _ b8
    obtain⟨b,cs,T,fr,g1,g3,g2,g4⟩:=h1
    simp only[VR] at hx
    obtain⟨b',o,cap,cL,rfl,k1,k2⟩:=hx.2 _ g1
    simp only[Option.some.injEq,Addr.mk.injEq,and_true] at cL
    subst cL
    have dh:=g4.length
    obtain⟨f1,f2⟩:=Rn hl ((g4.drop off).take len) (Hq wz ((g4.drop off).take len))
    have hlen:ts.length=len:=by rw[f1];simp;omega
    refine⟨some ⟨b,o,none⟩,cap,by rw[hlen],by rw[hlen];exact k1,?_⟩
    by_cases h0:len=0
    ·exact .inl (by omega)
    ·refine .inr ⟨b,o,rfl,.inl g3,fun i hi=>?_⟩
     have Hx:o=off:=k2 (by omega)
     subst Hx
     have dD:i<((cs.toList.drop o).take len).length:=by simp at dh ⊢;omega
     obtain⟨m1,m2⟩:=f2 i hi dD
     refine⟨_,by simp[m2],?_,m1⟩
     intro j hj
     have o9:j=0:=by simp at hj;exact hj
     subst o9
     have fx:=pZ g2 (o+i) (by simp at dD ⊢;omega)
     simp only[List.getElem_cons_zero,Nat.add_zero,m2,Nat.mul_one]
     simp only[Nat.zero_add] at fx
     rw[fx]
     simp
   ·simp at h
  ·simp at h
 ·rename_i n e1 i at' m s off len
  split at h
  ·rename_i e' ys b8
   split at h
   case isFalse=>simp at h
   rename_i he
   subst he
   split at h
   case isFalse=>simp at h
   rename_i he
   subst he
   split at h
   ·rename_i t ht
    simp only[Option.some.injEq,Prod.mk.injEq] at h
    obtain⟨rfl,rfl⟩:=h
    have hi:i<ys.length:=hq _ (List.Mem.head _)
    obtain⟨h1,h2,h3⟩:=hs.obj n _ b8
    obtain⟨L,g1,_,g2⟩:=h1
    simp only[VR] at hx
    obtain⟨b',o,cL,rfl,k1,k2⟩:=hx.2 L g1
    rcases g2 with g2 | ⟨b,cs,T,fr,f1,f2,f3,f4,f5,f6,f7⟩
    ·omega
    ·rw[f1] at cL
     simp only[Option.some.injEq,Addr.mk.injEq,and_true] at cL
     subst cL
     rw[getD_eq hi] at ht
     obtain⟨p1,p2⟩:=Hn e' ht (f7 i hi)
     simp only[aN,Sh.size] at p1 p2
     obtain⟨c1,c2,c3⟩:=p2
     have jo:off+len<=List.length t:=by rw[c1];exact k1
     have hlen:(cE off (off+len) t).length=len:=by rw[MN (by omega) jo];omega
     refine⟨some ⟨b,o,none⟩,m-off,by rw[hlen],by rw[hlen];omega,?_⟩
     by_cases h0:len=0
     ·exact .inl (by rw[hlen];exact h0)
     ·refine .inr ⟨b,o,rfl,.inr ⟨n,by simp[AV.has,eV],L,g1,f2,f1⟩,fun j hj=>?_⟩
      rw[MO jo hj]
      have ly:j<len:=by rw[hlen] at hj;exact hj
      have Hx:=k2 (by omega)
      subst Hx
      have fx:=(((((pZ f3).drop (i*e'.size)).take e'.size).drop at').take (m*s.size)).drop ((off+j)*s.size) |>.take s.size
      refine⟨_,aN.length s _ _ (c3 (off+j) (by omega)),?_,c3 (off+j) (by omega)⟩
      rw[Nat.zero_add,Nat.add_mul] at fx
      rw[Nat.add_mul]
      rw[show i*e'.size+at'+off*s.size+j*s.size=i*e'.size+at'+(off*s.size+j*s.size) by omega]
      exact fx
   ·simp at h
  ·simp at h
 ·simp at h
theorem Row.append{w:World}{b o:Nat}{c1 c2:List Value}(h1:Row w b o c1)(h2:Row w b (o+c1.length) c2):Row w b o (c1++c2):=by
 intro j hj
 by_cases hlt:j<c1.length
 ·rw[List.getElem_append_left hlt];exact h1 j hlt
 ·rw[List.getElem_append_right (by omega)]
  have:=h2 (j-c1.length) (by simp at hj;omega)
  rwa [show o+c1.length+(j-c1.length)=o+j by omega] at this
theorem MP{w:World}{ok:Nat->Prop}{e:Sh}(b:Nat):∀ (xs:List e.T) (o:Nat),(∀ i (h:i<xs.length),∃ cs,cs.length=e.size/\Row w b (o+i*e.size) cs/\aN w ok e (xs[i]'h) cs)->
  ∃ news:List Value,news.length=xs.length*e.size/\Row w b o news/\∀ i (h:i<xs.length),aN w ok e (xs[i]'h) ((news.drop (i*e.size)).take e.size)
 | [],o,h=>⟨[],by simp,fun j hj=>by simp at hj,fun i hi=>by simp at hi⟩
 | x::r,o,h=>by
  obtain⟨cs,h1,h2,h3⟩:=h 0 (by simp)
  obtain⟨news,g1,g2,g3⟩:=MP b r (o+e.size) (fun i hi=>by
   obtain⟨cs,k1,k2,k3⟩:=h (i+1) (by simpa using hi)
   exact⟨cs,k1,by rwa [show o+(i+1)*e.size=o+e.size+i*e.size by rw[Nat.add_mul];omega] at k2,k3⟩)
  simp only[Nat.zero_mul,Nat.add_zero,List.getElem_cons_zero] at h2 h3
  refine⟨cs++news,by simp[h1,g1,Nat.add_mul];omega,h2.append (by rw[h1];exact g2),fun i hi=>?_⟩
  cases i with
  | zero=>
   simp only[Nat.zero_mul,List.drop_zero,List.getElem_cons_zero]
   rw[List.take_append_of_le_length (by omega),<-h1,List.take_length]
   exact h3
  | succ i=>
   simp only[List.getElem_cons_succ]
   have:=g3 i (by simpa using hi)
   rwa [show (i+1)*e.size=cs.length+i*e.size by rw[Nat.add_mul,h1];omega,List.drop_length_add_append]
theorem aN.leaf{w:World}{ok:Nat->Prop}:∀ (s:Sh) (x:s.T) (vs:List Value),aN w ok s x vs->∀ v∈vs,v.oneCell'=true
 | .int k,x,vs,h,v,hv=>by simp only[aN] at h;subst h;simp at hv;subst hv;rfl
 | .bool,x,vs,h,v,hv=>by simp only[aN] at h;subst h;simp at hv;subst hv;rfl
 | .str,x,vs,h,v,hv=>by simp only[aN] at h;subst h;simp at hv;subst hv;rfl
 | .unit,x,vs,h,v,hv=>by simp only[aN] at h;subst h;simp at hv
 | .sl e,x,vs,h,v,hv=>by simp only[aN] at h;obtain⟨_,_,rfl,_⟩:=h;simp at hv;subst hv;rfl
 | .arr n e,x,vs,h,v,hv=>by
  simp only[aN] at h
  obtain⟨h1,h2,h3⟩:=h
  obtain⟨j,hj,rfl⟩:=List.getElem_of_mem hv
  have hs:0<e.size:=by
   rcases Nat.eq_zero_or_pos e.size with h0 | h0
   ·rw[h0] at h2;simp at h2;subst h2;simp at hj
   ·exact h0
  have hjn:j / e.size<List.length x:=by
   rw[h1]
   exact Nat.div_lt_of_lt_mul (by rw[Nat.mul_comm];omega)
  refine aN.leaf e _ _ (h3 (j / e.size) hjn) vs[j] ?_
  rw[List.mem_iff_getElem?]
  refine⟨j % e.size,?_⟩
  rw[List.getElem?_take,if_pos (Nat.mod_lt _ hs),List.getElem?_drop]
  have:j / e.size*e.size+j % e.size=j:=by rw[Nat.mul_comm];exact Nat.div_add_mod j e.size
  rw[this,List.getElem?_eq_getElem hj]
 | .pair p q,x,vs,h,v,hv=>by
  simp only[aN] at h
  obtain⟨v1,v2,rfl,h1,h2⟩:=h
  rcases List.mem_append.1 hv with hv | hv
  ·exact aN.leaf p _ _ h1 v hv
  ·exact aN.leaf q _ _ h2 v hv
 | .pt e,x,vs,h,v,hv=>by simp only[aN] at h;obtain⟨_,_,_,rfl,_⟩:=h;simp at hv;subst hv;rfl
 | .err,x,vs,h,v,hv=>by
  simp only[aN] at h
  obtain⟨y,rfl,h⟩:=h
  have e:v=y:=by simpa using hv
  subst e
  cases x with
  | nil=>simp only[eT] at h;subst h;rfl
  | num t k n=>simp only[eT] at h;subst h;rfl
  | at' t n e=>simp only[eT] at h;obtain⟨b,x,rfl,_⟩:=h;rfl
  | xW t s e=>simp only[eT] at h;obtain⟨b,x,rfl,_⟩:=h;rfl
  | any t=>simp only[eT] at h;obtain⟨x,rfl⟩:=h;rfl
theorem Rp{w:World}{ok:Nat->Prop}{e:Sh}{xs:List e.T}{news:List Value}(hl:news.length=xs.length*e.size)
  (h:∀ i (h:i<xs.length),aN w ok e (xs[i]'h) ((news.drop (i*e.size)).take e.size)):∀ v∈news,v.oneCell'=true:=by
 have:aN w ok (.arr xs.length e) xs news:=⟨rfl,hl,h⟩
 exact aN.leaf _ _ _ this
structure Ap(P:Program)(E:Env)(e:Sh)(ys:List e.T)(tx:TypeId)(y:Value):Prop where
 ex:∃ news:List Value,Src P e.size tx y ys.length news E.w/\∀ i (h:i<ys.length),aN E.w E.ok e (ys[i]'h) ((news.drop (i*e.size)).take e.size)
theorem Ap.zmS{P:Program}{e:Sh}{ys:List e.T}{tx e':TypeId}{y:Value}(hk:P.underlying tx=some (.slice e')){yp:Nat->Prop}(h:Rd E.w E.ok yp e ys y):Ap P E e ys tx y:=by
 obtain⟨base,cap,rfl,_,h⟩:=h
 rcases h with h | ⟨b,o,rfl,_,h⟩
 ·refine⟨[],?_,fun i hi=>by omega⟩
  rw[h]
  cases base with
  | none=>exact Src.ofNil E.w hk cap
  | some ad=>exact Src.ofSlice E.w hk ad 0 cap [] (by simp) (fun j u hj=>by simp at hj) (fun u hu=>by simp at hu)
 ·obtain⟨news,g1,g2,g3⟩:=MP b ys o h
  refine⟨news,Src.ofSlice E.w hk _ _ cap news g1 (fun j u hj=>?_) (Rp g1 g3),g3⟩
  have sB:j<news.length:=by
   rcases Nat.lt_or_ge j news.length with hlt | hge
   ·exact hlt
   ·rw[List.getElem?_eq_none hge] at hj;simp at hj
  rw[jc,g2 j sB]
  rw[List.getElem?_eq_getElem sB] at hj
  exact hj
theorem Ap.zmT{P:Program}{tx:TypeId}(hk:P.underlying tx=some .string)(l:List UInt8):Ap P E (.int .u8) (ofBytes l) tx (.string ⟨l.toArray⟩):=by
 refine⟨byteCells ⟨l.toArray⟩,?_,fun i hi=>?_⟩
 ·have:=Src.ofString E.w hk ⟨l.toArray⟩
  have hl:(ofBytes l).length=(⟨l.toArray⟩:ByteArray).size:=by simp[ofBytes,ByteArray.size]
  rw[hl]
  exact this
 ·have dD:i<l.length:=by simpa [ofBytes] using hi
  simp only[Sh.size,Nat.mul_one,aN,byteCells,ofBytes]
  rw[List.getElem_map]
  have hd:(l.map fun b:UInt8=>Value.int .u8 (b.toNat:Int)).drop i=Value.int .u8 ((l[i]'dD).toNat:Int)::(l.map fun b:UInt8=>Value.int .u8 (b.toNat:Int)).drop (i+1):=by
   rw[List.drop_eq_getElem_cons (by simpa using dD)]
   simp
  simp only[hd]
  simp
theorem YP{v:Value}(h:v.oneCell'=true):eL v:=by
 cases v<;>first | trivial | (simp[Value.oneCell'] at h)
theorem MQ{s:Sh}{v:AV}{y:s.T}{z:Value}(h:uQ s v=some y)(hv:VR E v z):aN E.w E.ok s y z.cells.toList/\∀ c∈z.cells.toList,eL c:=by
 unfold uQ at h
 split at h
 ·split at h
  ·rename_i he
   subst he
   simp only[Option.some.injEq] at h
   subst h
   simp only[VR] at hv
   obtain⟨x,rfl,hx⟩:=hv
   have:(Value.agg x.toArray).cells.toList=x:=by simp[Value.cells]
   rw[this]
   exact⟨hx,fun c hc=>YP (aN.leaf _ _ _ hx c hc)⟩
  ·simp at h
 ·split at h
  ·rename_i cs gq
   obtain⟨g1,g2,g3⟩:=Hr gq hv
   exact⟨DT h g1,g2⟩
  ·simp at h
theorem zmU{P:Program}(hs:df W0 okIn B us tm ob nt E a){nm:Nat}(cO:¬ us nm){T:TypeId}{e:Sh}{v:AV}{y:e.T}{x:Value}(h:uQ e v=some y)(hx:VR E v x):
  ∃ E' z,(Instr.box T x).run P E.w=.ok z E'.w/\cK W0 okIn B us (eC us nm) E E' [(nm,some (.rows e [y]))]/\VR E' (.epr nm e 0 0) z:=by
 obtain⟨h1,h2⟩:=MQ h hx
 obtain⟨E',hE,hv,hp⟩:=YE hs.env hs.lo cO T (aN.length e _ _ h1) h1
 refine⟨E',_,?_,hv,hp⟩
 rw[hE]
 simp[Instr.box,ME]
theorem zmV{P:Program}(hs:df W0 okIn B us tm ob nt E a){nm:Nat}{T:TypeId}{x y:AV}{v z:Value}{q:List Prop}{u:cx}(h:Dr P T ob x y=some (q,u))(hq:∀ p∈q,p)
  (hx:VR E x v) (hy:VR E y z):∃ E',(Instr.storeAt T v z).run P E.w=.ok () E'.w/\cK W0 okIn B us (eC us nm) E E' u:=by
 unfold Dr at h
 split at h
 case h_2=>simp at h
 rename_i n e i off
 split at h
 ·simp at h
 split at h
 case h_2=>simp at h
 rename_i e' xs b8
 split at h
 case isFalse=>simp at h
 rename_i he
 subst he
 split at h
 case h_2=>simp at h
 rename_i s hU
 split at h
 case h_2=>simp at h
 rename_i y' Rq
 split at h
 case h_2=>simp at h
 rename_i t ht
 simp only[Option.some.injEq,Prod.mk.injEq] at h
 obtain⟨rfl,rfl⟩:=h
 have hi:i<xs.length:=hq _ (List.Mem.head _)
 obtain⟨d1,d2⟩:=MQ Rq hy
 have kL:=aN.length s _ _ d1
 have iu:z.cells.size=s.size:=by simpa using kL
 have dE:∀ ad:Addr,(Instr.storeAt T (.pointer (some ad)) z).run P E.w=(storeCells ad z.cells.toList).run P E.w:=by
  intro ad
  simp[Instr.storeAt,Instr.sureAddr,storeVar,kd E.w (yh hU).1,iu]
 obtain⟨h1,h2,h3⟩:=hs.obj n _ b8
 obtain⟨L,k1,kl,k2⟩:=h1
 rcases k2 with k2 | ⟨b,cells,T',fr,k3,k4,k5,k6,k7,k8,k9⟩
 ·omega
 simp only[VR] at hx
 obtain⟨b',cL,rfl⟩:=hx.2 _ k1
 rw[k3] at cL
 simp only[Option.some.injEq,Addr.mk.injEq,and_true] at cL
 subst cL
 have dS:cV E n b:=⟨_,k1,k4,k3⟩
 rw[getD_eq hi] at ht
 obtain⟨s1,s2⟩:=MC e' ht (k9 i hi) d1
 have o7:i*e'.size+e'.size<=cells.size:=by
  have:=Nat.mul_le_mul_right e'.size (show i+1<=L.cap by omega)
  rw[Nat.add_mul i 1] at this;omega
 have u7:((cells.toList.drop (i*e'.size)).take e'.size).length=e'.size:=by simp;omega
 rw[u7] at s1
 have qb:i*e'.size+off+0+z.cells.toList.length<=cells.size:=by rw[kL];omega
 have hst:=wE (P:=P) b T' fr z.cells.toList (i*e'.size+off) 0 cells E.w k5 k8 qb d2
 simp only[Nat.add_zero] at hst qb
 have eJ:∀ c,c<E.w.heap.size->¬ cV E n c->(E.w.setRow b (cells.toList.take (i*e'.size+off)++z.cells.toList++cells.toList.drop (i*e'.size+off+z.cells.toList.length)).toArray).heap[c]? =E.w.heap[c]? :=
  fun c hc fV=>setRow_other _ _ _ _ fun lV=>fV (lV▸dS)
 have cR:=AH hs.env eJ
 refine⟨⟨_,E.mu,E.ok⟩,by rw[dE];exact hst,cK.set hs.env h3 eJ (setRow_size _ _ _) rfl rfl rfl ?_ (by simp[AO.nm])⟩
 have yo:(cells.toList.take (i*e'.size+off)++z.cells.toList++cells.toList.drop (i*e'.size+off+z.cells.toList.length)).length=cells.size:=by
  simp
  simp at qb
  omega
 have tK:off+z.cells.toList.length<=e'.size:=by rw[kL];omega
 refine⟨L,k1,by simpa using kl,.inr ⟨b,_,T',fr,k3,k4,setRow_heap E.w b cells _ T' fr k5,by simpa [k6] using yo,by simpa using k7,?_,?_⟩⟩
 ·intro j hj
  exact k8 j (by rw[List.size_toArray,yo] at hj;exact hj)
 ·intro j hj
  refine aN.mono cR (fun _ h=>h) _ _ _ ?_
  simp only[List.length_set] at hj
  by_cases lW:j=i
  ·subst lW
   simp only[List.getElem_set_self]
   rw[List.toList_toArray,ML _ _ _ _ _ (by simpa using o7) tK,kL]
   exact s2
  ·simp only[List.getElem_set_ne (Ne.symm lW)]
   rw[List.toList_toArray,MM _ _ _ _ _ _ (by simpa using o7) tK lW]
   exact k9 j hj
theorem YQ{P:Program}:∀ {fs:List Field} {q:List (Nat×Nat)} {i:Nat} {f:Field},wk P fs=some q->fs[i]? =some f->∃ s,iA P f.type=some s/\q[i]? =some (f.offset,s)
 | [],q,i,f,h,hf=>by simp at hf
 | g::r,q,i,f,h,hf=>by
  unfold wk at h
  split at h
  ·rename_i s hs
   split at h
   ·rename_i q' wB
    simp only[Option.some.injEq] at h
    subst h
    cases i with
    | zero=>simp only[List.getElem?_cons_zero,Option.some.injEq] at hf;subst hf;exact⟨s,hs,rfl⟩
    | succ i=>
     obtain⟨s',h1,h2⟩:=YQ (i:=i) wB (by simpa using hf)
     exact⟨s',h1,by simpa using h2⟩
   ·simp at h
  ·simp at h
theorem YR{P:Program}{fs:List Field}{q:List (Nat×Nat)}(hq:wk P fs=some q){e:Sh}:∀ {l:List (Nat×AV)} {vs:List (Nat×Value)} {x x':e.T} {cs:Array Value},
  G7 P fs e x l=some x'->kJ E l vs->aN E.w E.ok e x cs.toList->∃ dQ,Instr.fill (fun i=>q.toArray[i]?) cs vs=some dQ/\aN E.w E.ok e x' dQ.toList
 | [],vs,x,x',cs,h,hv,hx=>by
  simp only[kJ] at hv
  simp only[G7,Option.some.injEq] at h
  subst hv;subst h
  exact⟨cs,by simp[Instr.fill],hx⟩
 | (i,a)::l,vs,x,x',cs,h,hv,hx=>by
  simp only[kJ] at hv
  obtain⟨v,r,rfl,fI,hr⟩:=hv
  unfold G7 at h
  split at h
  case h_2=>simp at h
  rename_i f hf
  rw[su] at hf
  split at h
  case h_2=>simp at h
  rename_i s hU
  split at h
  case h_2=>simp at h
  rename_i y hy
  split at h
  case h_2=>simp at h
  rename_i x1 Hk
  obtain⟨sz,cq,hqi⟩:=YQ hq hf
  have DY:sz=s.size:=Option.some.inj (cq.symm.trans (yh hU).1)
  subst DY
  obtain⟨d1,d2⟩:=MQ hy fI
  have kL:=aN.length s _ _ d1
  have YS:v.cells.size=s.size:=by simpa using kL
  obtain⟨s1,s2⟩:=MC e Hk hx d1
  have hbound:f.offset+v.cells.size<=cs.size:=by simp at s1;omega
  have heq:=Rh f.offset v cs hbound
  obtain⟨dQ,lT,oZ⟩:=YR hq (cs:=v.cells.zipIdx.foldl (fun cs (p:Value×Nat)=>cs.setIfInBounds (f.offset+p.2) p.1) cs) h hr (by rw[heq,YS];exact s2)
  refine⟨dQ,?_,oZ⟩
  have zmX:q.toArray[i]? =some (f.offset,s.size):=by simpa using hqi
  simp only[Instr.fill,zmX]
  rw[if_neg (by simp[YS];omega)]
  exact lT
theorem zmY{P:Program}{T:TypeId}{l:List (Nat×AV)}{vs:List (Nat×Value)}{r:AV}(h:QS P T l=some r)(hv:kJ E l vs)(w:World):
  ∃ y,(Instr.build T vs.toArray).run P w=.ok y w/\VR E r y/\∀ p,r.nm p:=by
 unfold QS at h
 split at h
 case h_3=>simp at h
 case h_2=>
  rename_i n t hT
  split at h
  case h_2=>simp at h
  rename_i e z s he hz hs
  split at h
  case h_2=>simp at h
  rename_i x hx
  simp only[Option.some.injEq] at h
  subst h
  simp only[kJ] at hv
  subst hv
  obtain⟨zv,u6,rfl⟩:=Ht hz w
  have wG:=DT (E:=E) hx (Au E zv.cells.toList)
  refine⟨.agg zv.cells,?_,⟨zv.cells.toList,by simp,wG⟩,fun p=>by simp[AV.nm]⟩
  simp[Instr.build,u6,run_underlying hT,kd w hs,Instr.fill]
 rename_i fs hT
 split at h
 case h_2=>simp at h
 rename_i e z he hz
 split at h
 ·simp at h
 split at h
 case h_2=>simp at h
 rename_i x hx
 split at h
 case h_2=>simp at h
 rename_i q x' hq hf
 simp only[Option.some.injEq] at h
 subst h
 obtain⟨zv,u6,rfl⟩:=Ht hz w
 have wG:=DT (E:=E) hx (Au E zv.cells.toList)
 obtain⟨dQ,g1,g2⟩:=YR hq hf hv wG
 refine⟨.agg dQ,?_,⟨dQ.toList,rfl,g2⟩,fun p=>by simp[AV.nm]⟩
 have Rj:(fs.mapM (fun f:Field=>(do pure (f.offset,<-sizeOf f.type):Sem (Nat×Nat)))).run P w=.ok q.toArray w:=by
  rw[Array.mapM_eq_mapM_toList,Sem.run_map,run_places w _ _ hq]
  rfl
 simp only[Instr.build,Sem.run_bind,u6,Result.andThen_ok,run_underlying hT,Rj,g1,Sem.run_pure]
end
section
variable {W0:WX} {okIn B us:Nat->Prop} {tm:Nat->Option AV} {ob:Nat->Option AO} {nt:Nat} {E:Env} {a:Act}
theorem YT{P:Program}{t:TypeId}{e:Sh}(h:G5 P t=some e):∃ i z,P.info? t=some i/\i.size=e.size/\i.zero=some z/\z.cells.size=e.size/\Ai P 16 t=some e:=by
 unfold G5 at h
 split at h
 ·rename_i e' z h1 h2
  split at h
  ·rename_i hb
   simp only[Option.some.injEq] at h
   subst h
   obtain⟨g1,g2⟩:=yh h1
   obtain⟨i,hi,cq⟩:=MA g1
   unfold lR at h2
   rw[hi] at h2
   simp only at h2
   split at h2
   ·rename_i zv hz
    simp only[Option.some.injEq] at h2
    subst h2
    have:=beq_true hb
    rw[lS] at this
    have hl:∀ l:List Value,(tC l).length=l.length:=by
     intro l;induction l with
     | nil=>rfl
     | cons v r ih=>simp[tC,ih]
    rw[hl] at this
    exact⟨i,zv,hi,cq,hz,by simpa using this,g2⟩
   ·simp at h2
  ·simp at h
 ·simp at h
theorem zmZ(z:Array Value)(n:Nat):(Builtin.zeroCells z n).size=n*z.size:=by simp[Builtin.zeroCells]
theorem MR{l m:List Value}{i s n:Nat}(hl:l.length=n*s)(hi:i<n):((l++m).drop (i*s)).take s=(l.drop (i*s)).take s:=by
 have:=Nat.mul_le_mul_right s (show i+1<=n by omega)
 rw[Nat.add_mul] at this
 rw[List.drop_append_of_le_length (by omega),List.take_append_of_le_length (by simp;omega)]
theorem YU{l m:List Value}{i s n:Nat}(hl:l.length=n*s):((l++m).drop ((n+i)*s)).take s=(m.drop (i*s)).take s:=by
 rw[Nat.add_mul,<-hl,List.drop_length_add_append]
theorem YV(he:jm W0 okIn B E){nm:Nat}(cO:¬ us nm){P:Program}{el:TypeId}{e:Sh}{xs ys:List e.T}{olds news:List Value}{z:Value}(hz:z.cells.size=e.size){cap:Nat}(hcap:xs.length+ys.length<=cap)(jD:0<cap)
  (ho:olds.length=xs.length*e.size) (hn:news.length=ys.length*e.size)
  (hx:∀ i (h:i<xs.length),aN E.w E.ok e (xs[i]'h) ((olds.drop (i*e.size)).take e.size)) (hy:∀ i (h:i<ys.length),aN E.w E.ok e (ys[i]'h) ((news.drop (i*e.size)).take e.size)):
  let cs:=(olds++news).toArray++Builtin.zeroCells z.cells (cap-(xs.length+ys.length))
  cs.size=cap*e.size/\∀ i (h:i<(xs++ys).length),aN E.w E.ok e ((xs++ys)[i]'h) ((cs.toList.drop (i*e.size)).take e.size):=by
 intro cs
 refine⟨?_,fun i hi=>?_⟩
 ·simp only[cs,Array.size_append,List.size_toArray,List.length_append,zmZ,hz,ho,hn]
  rw[<-Nat.add_mul,<-Nat.add_mul]
  congr 1
  omega
 ·have gq:cs.toList=olds++(news++(Builtin.zeroCells z.cells (cap-(xs.length+ys.length))).toList):=by simp[cs]
  rw[gq]
  by_cases hlt:i<xs.length
  ·rw[List.getElem_append_left hlt,MR ho hlt]
   exact hx i hlt
  ·have hlen:i-xs.length<ys.length:=by simp at hi;omega
   rw[List.getElem_append_right (by omega)]
   have:i=xs.length+(i-xs.length):=by omega
   rw[show (olds++(news++(Builtin.zeroCells z.cells (cap-(xs.length+ys.length))).toList)).drop (i*e.size)=(olds++(news++(Builtin.zeroCells z.cells (cap-(xs.length+ys.length))).toList)).drop ((xs.length+(i-xs.length))*e.size) by rw[<-this]]
   rw[YU ho,MR hn hlen]
   exact hy _ hlen
theorem Rr{P:Program}{e:TypeId}{n:Nat}{i:TypeInfo}(hi:P.info? e=some i)(h:roomy P e n):n*i.bytes<=140737488355328/\n<=140737488355328:=by
 unfold roomy at h
 rw[hi] at h
 simp only[room] at h
 split at h
 ·rename_i h0;rw[h0];exact⟨by omega,h⟩
 ·rename_i b h0
  rw[h0]
  exact⟨h,Nat.le_trans (Nat.le_mul_of_pos_right _ (Nat.succ_pos _)) h⟩
theorem append_nil{P:Program}(hs:df W0 okIn B us tm ob nt E a){nm:Nat}(cO:¬ us nm){T tx ty el:TypeId}{e:Sh}{ys:List e.T}{y:Value}(hT:P.underlying T=some (.slice el))(he:G5 P el=some e)
  (mM:Ap P E e ys tx y) (hr:roomy P el ys.length):
  ∃ E' z,(Builtin.append_ #[T,tx] ty #[.slice none 0 0,y]).run P E.w=.ok z E'.w/\cK W0 okIn B us (eC us nm) E E' [(nm,some (.rows e ys))]/\VR E' (.own nm e) z:=by
 obtain⟨i,z,hi,cq,hz,iu,_⟩:=YT he
 obtain⟨news,jJ,hn⟩:=mM
 rw[<-cq] at jJ
 obtain⟨r1,r2⟩:=Rr hi hr
 by_cases h0:ys.length=0
 ·have jq:news=[]:=by have:=jJ.newsLen;rw[h0] at this;simpa using this
  subst jq
  rw[h0] at jJ
  refine⟨⟨E.w,gT E.mu nm (some ⟨none,0,false,0⟩),E.ok⟩,_,run_append_nothing E.w T tx ty el i hT hi none 0 0 (Nat.le_refl _) y jJ,?_,?_⟩
  ·refine cK.new hs.env hs.lo cO (fun _ _=>rfl) (Nat.le_refl _) rfl rfl rfl (fun h=>by simp at h) ?_ (by simp[AO.nm])
   exact⟨_,jV _ _ _,h0.symm,.inl ⟨rfl,h0,rfl⟩⟩
  ·simp only[VR,eL,true_and]
   intro L hL
   simp only[jV,Option.some.injEq] at hL
   subst hL
   rfl
 ·have dE:=run_append_grow_src E.w T tx ty el i z hT hi hz none 0 0 [] (run_firstCells_none E.w.drew i.size 0 0 0) y ys.length news jJ (by omega) (by omega) (growslice_fits (by omega) (by simpa using r1))
  have hcap:=grownCap_ge E.w (0+ys.length) 0 el
  obtain⟨g1,g2⟩:=YV (P:=P) (el:=el) hs.env cO (xs:=[]) (ys:=ys) (olds:=[]) (news:=news) iu (cap:=grownCap E.w (0+ys.length) 0 el) (by simpa using hcap) (by omega) (by simp) (by rw[jJ.newsLen,cq]) (fun i hi=>by simp at hi) hn
  obtain⟨E',hE,iE,wC⟩:=MF hs.env hs.lo cO (xs:=ys) (T:=el) (fr:=(0,0)) (w':=E.w.drew.alloc (.cells (([]++news).toArray++Builtin.zeroCells z.cells (grownCap E.w (0+ys.length) 0 el-(0+ys.length))) el))
   (fun b hb=>AE E.w _ b hb) (AF E.w _) (by show _<(E.w.heap.push _).size;simp) rfl rfl rfl (fun i _=>by omega) (by simpa using g1) (by simpa using hcap) (fun i hi=>by simpa using g2 i (by simpa using hi))
  refine⟨E',_,?_,iE,wC⟩
  rw[hE,dE]
  simp
theorem YW{P:Program}(hs:df W0 okIn B us tm ob nt E a){nm n:Nat}(cO:¬ us nm){T tx ty el:TypeId}{e:Sh}{xs ys:List e.T}{v y:Value}(hT:P.underlying T=some (.slice el))(he:G5 P el=some e)
  (b8:ob n=some (.rows e xs)) (hx:∀ L,E.mu n=some L->v=.slice L.base xs.length L.cap/\xs.length<=L.cap) (mM:Ap P E e ys tx y) (hr:roomy P el (xs.length+ys.length)):
  ∃ E' z,(Builtin.append_ #[T,tx] ty #[v,y]).run P E.w=.ok z E'.w/\cK W0 okIn B us (eC us nm) E E' [(n,none),(nm,some (.rows e (xs++ys)))]/\VR E' (.own nm e) z:=by
 obtain⟨i,z,hi,cq,hz,iu,_⟩:=YT he
 obtain⟨news,jJ,hn⟩:=mM
 have zF4:=jJ
 rw[<-cq] at jJ
 obtain⟨r1,r2⟩:=Rr hi hr
 obtain⟨h1,h2,h3⟩:=hs.obj n _ b8
 obtain⟨L,g1,gl,g2⟩:=h1
 obtain⟨rfl,k1⟩:=hx L g1
 
 have grow:∀ (olds:List Value),(Builtin.firstCells i.size xs.length (.slice L.base xs.length L.cap)).run P E.w.drew=.ok olds.toArray E.w.drew->olds.length=xs.length*e.size->
   (∀ i (h:i<xs.length),aN E.w E.ok e (xs[i]'h) ((olds.drop (i*e.size)).take e.size))->L.cap<xs.length+ys.length->
   ∃ E' z,(Builtin.append_ #[T,tx] ty #[.slice L.base xs.length L.cap,y]).run P E.w=.ok z E'.w/\cK W0 okIn B us (eC us nm) E E' [(n,none),(nm,some (.rows e (xs++ys)))]/\VR E' (.own nm e) z:=by
  intro olds ho1 Hy ho3 hlt
  have dE:=run_append_grow_src E.w T tx ty el i z hT hi hz L.base xs.length L.cap olds ho1 y ys.length news jJ hlt (by omega) (growslice_fits hlt r1)
  have hcap:=grownCap_ge E.w (xs.length+ys.length) L.cap el
  obtain⟨c1,c2⟩:=YV (P:=P) (el:=el) hs.env cO (xs:=xs) (ys:=ys) (olds:=olds) (news:=news) iu (cap:=grownCap E.w (xs.length+ys.length) L.cap el) hcap (by omega) Hy (by rw[jJ.newsLen,cq]) ho3 hn
  have eJ:∀ b,b<E.w.heap.size->(E.w.drew.alloc (.cells ((olds++news).toArray++Builtin.zeroCells z.cells (grownCap E.w (xs.length+ys.length) L.cap el-(xs.length+ys.length))) el)).heap[b]? =E.w.heap[b]? :=fun b hb=>AE E.w _ b hb
  refine⟨⟨_,gT (gT E.mu n none) nm (some ⟨some ⟨E.w.heap.size,0,none⟩,grownCap E.w (xs.length+ys.length) L.cap el,true,xs.length+ys.length⟩),E.ok⟩,_,dE,?_,?_⟩
  ·refine cK.move hs.env hs.lo cO h3 (fun b hb _=>eJ b hb) (by show _<=(E.w.heap.push _).size;simp) rfl rfl rfl (fun _=>⟨_,rfl,by show _<(E.w.heap.push _).size;simp,.inl (Nat.le_refl _)⟩) ?_ (by simp[AO.nm])
   exact⟨_,jV _ _ _,by simp,.inr ⟨E.w.heap.size,_,el,(0,0),rfl,rfl,AF E.w _,c1,by simpa using hcap,fun i _=>by omega,fun i hi=>
    aN.mono (fun b hb=>eJ b (hs.env.iR b hb).1) (fun _ h=>h) _ _ _ (c2 i hi)⟩⟩
  ·simp only[VR,eL,true_and]
   intro L' c9
   simp only[jV,Option.some.injEq] at c9
   subst c9
   rfl
 rcases g2 with⟨g2,g3,g4⟩ | ⟨b,cs,T',fr,f1,f2,f3,f4,f5,f6,f7⟩
 ·by_cases h0:ys.length=0
  ·have jq:news=[]:=by have:=jJ.newsLen;rw[h0] at this;simpa using this
   subst jq
   rw[h0] at jJ
   refine⟨⟨E.w,gT (gT E.mu n none) nm (some L),E.ok⟩,_,run_append_nothing E.w T tx ty el i hT hi L.base xs.length L.cap k1 y jJ,?_,?_⟩
   ·refine cK.move hs.env hs.lo cO h3 (fun _ _ _=>rfl) (Nat.le_refl _) rfl rfl rfl (fun h=>by rw[g4] at h;simp at h) ?_ (by simp[AO.nm])
    exact⟨_,jV _ _ _,by rw[List.length_append];omega,.inl ⟨g2,by rw[List.length_append];omega,g4⟩⟩
   ·simp only[VR,eL,true_and]
    intro L' c9
    simp only[jV,Option.some.injEq] at c9
    subst c9
    rw[gl]
  ·refine grow [] ?_ (by simp[g3]) (fun i hi=>by omega) (by omega)
   rw[g3]
   cases L.base with
   | none=>exact run_firstCells_none E.w.drew i.size 0 0 L.cap
   | some ad=>exact run_firstCells_some E.w.drew i.size 0 ad 0 L.cap [] (by simp) (fun j v hj=>by simp at hj)
 ·by_cases AK:xs.length+ys.length<=L.cap
  ·rw[f1]
   have dS:cV E n b:=⟨L,g1,f2,f1⟩
   have sC:news.length=ys.length*e.size:=by rw[jJ.newsLen,cq]
   have hbound:xs.length*e.size+0+news.length<=cs.size:=by
    rw[f4,sC]
    have:=Nat.mul_le_mul_right e.size AK
    rw[Nat.add_mul] at this;omega
   have hst:=wE (P:=P) b T' fr news (xs.length*e.size) 0 cs E.w f3 f6 hbound (fun v hv=>by
    have:=jJ.one v hv
    cases v<;>first | trivial | (simp[Value.oneCell'] at this))
   simp only[Nat.add_zero] at hst hbound
   have YX:∀ j,j<news.length->(E.w.cell? ⟨b,0+xs.length*i.size+j,none⟩).isSome=true:=by
    intro j hj
    rw[cq]
    simp[World.cell?,f3,show xs.length*e.size+j<cs.size by omega]
   have hfro:∀ j,j<news.length->E.w.frozen? ⟨b,0+xs.length*i.size+j,none⟩=false:=by
    intro j hj
    have:=f6 (xs.length*e.size+j) (by omega)
    simp only[World.frozen?,f3,cq,Nat.zero_add]
    by_cases h:fr.1<=xs.length*e.size+j
    ·have h2:¬ (xs.length*e.size+j<fr.2):=fun hh=>this ⟨h,hh⟩
     simp[h2]
    ·simp[h]
   have dE:=run_append_room_src E.w T tx ty el i hT hi b 0 xs.length L.cap y ys.length news jJ AK YX hfro
   have jW:=run_storeCells_cells (P:=P) b (xs.length*e.size) news 0 E.w (by
    intro j hj
    have:=YX j hj
    rwa [cq,Nat.zero_add] at this) (by
    intro j hj
    have:=hfro j hj
    rwa [cq,Nat.zero_add] at this) jJ.one
   have heq:E.w.setCells b (0+xs.length*i.size) news=E.w.setRow b (cs.toList.take (xs.length*e.size)++news++cs.toList.drop (xs.length*e.size+news.length)).toArray:=by
    rw[hst] at jW
    simp only[Nat.add_zero,Result.ok.injEq,true_and] at jW
    rw[Nat.zero_add,cq]
    exact jW.symm
   rw[heq] at dE
   have eJ:∀ c,c<E.w.heap.size->¬ cV E n c->(E.w.setRow b (cs.toList.take (xs.length*e.size)++news++cs.toList.drop (xs.length*e.size+news.length)).toArray).heap[c]? =E.w.heap[c]? :=
    fun c hc fV=>setRow_other _ _ _ _ fun lV=>fV (lV▸dS)
   have cR:=AH hs.env eJ
   have hlen:(cs.toList.take (xs.length*e.size)++news++cs.toList.drop (xs.length*e.size+news.length)).length=cs.size:=by simp;omega
   have cL:b<E.w.heap.size:=(hs.env.own n b dS).2.1
   refine⟨⟨_,gT (gT E.mu n none) nm (some ⟨L.base,L.cap,L.own,xs.length+ys.length⟩),E.ok⟩,_,dE,?_,?_⟩
   ·refine cK.move hs.env hs.lo cO h3 eJ (Nat.le_of_eq (setRow_size _ _ _).symm) rfl rfl rfl (fun _=>⟨b,f1,Nat.lt_of_lt_of_eq cL (setRow_size E.w b _).symm,.inr dS⟩) ?_ (by simp[AO.nm])
    refine⟨_,jV _ _ _,by simp,.inr ⟨b,_,T',fr,f1,f2,setRow_heap E.w b cs _ T' fr f3,by rw[List.size_toArray,hlen];exact f4,by simpa using AK,fun j hj=>f6 j (by rw[List.size_toArray,hlen] at hj;exact hj),fun j hj=>?_⟩⟩
    refine aN.mono cR (fun _ h=>h) _ _ _ ?_
    rw[List.toList_toArray]
    have jo:(cs.toList.take (xs.length*e.size)).length=xs.length*e.size:=by simp;omega
    by_cases hlt:j<xs.length
    ·rw[List.getElem_append_left hlt,List.append_assoc,MR jo hlt]
     have:=Nat.mul_le_mul_right e.size (show j+1<=xs.length by omega)
     rw[Nat.add_mul] at this
     have h7:=f7 j hlt
     rwa [List.drop_take,List.take_take,show min e.size (xs.length*e.size-j*e.size)=e.size by omega]
    ·have YY:j-xs.length<ys.length:=by simp at hj;omega
     rw[List.getElem_append_right (by omega)]
     have:j=xs.length+(j-xs.length):=by omega
     rw[List.append_assoc,show (cs.toList.take (xs.length*e.size)++(news++cs.toList.drop (xs.length*e.size+news.length))).drop (j*e.size)=(cs.toList.take (xs.length*e.size)++(news++cs.toList.drop (xs.length*e.size+news.length))).drop ((xs.length+(j-xs.length))*e.size) by rw[<-this]]
     rw[YU jo,MR sC YY]
     exact hn _ YY
   ·simp only[VR,eL,true_and]
    intro L' c9
    simp only[jV,Option.some.injEq] at c9
    subst c9
    simp[f1]
  ·have dh:xs.length*e.size<=cs.size:=by rw[f4];exact Nat.mul_le_mul_right _ f5
   have jo:(cs.toList.take (xs.length*e.size)).length=xs.length*e.size:=by simp;omega
   refine grow (cs.toList.take (xs.length*e.size)) ?_ jo (fun i hi=>?_) (by omega)
   ·rw[f1]
    refine run_firstCells_some E.w.drew i.size xs.length _ _ _ _ (by rw[jo,cq]) (fun j v hj=>?_)
    have sB:j<(cs.toList.take (xs.length*e.size)).length:=by
     rcases Nat.lt_or_ge j (cs.toList.take (xs.length*e.size)).length with hlt | hge
     ·exact hlt
     ·rw[List.getElem?_eq_none hge] at hj;simp at hj
    rw[List.getElem?_eq_getElem sB] at hj
    have:=((pZ f3).take (xs.length*e.size)) j sB
    rw[jc]
    exact this.trans hj
   ·have:=Nat.mul_le_mul_right e.size (show i+1<=xs.length by omega)
    rw[Nat.add_mul] at this
    rw[List.drop_take,List.take_take,show min e.size (xs.length*e.size-i*e.size)=e.size by omega]
    exact f7 i hi
end
section
variable {W0:WX} {okIn B us:Nat->Prop} {tm:Nat->Option AV} {ob:Nat->Option AO} {nt:Nat} {E:Env} {a:Act}
theorem Rs{P:Program}(hs:df W0 okIn B us tm ob nt E a){T:TypeId}{y:AV}{v:Value}{e:Sh}{ys:List e.T}{q:List Prop}(h:Dv P T ob e y=some (ys,q))(hq:∀ p∈q,p)(hy:VR E y v):Ap P E e ys T v:=by
 unfold Dv at h
 split at h
 ·rename_i hT
  split at h
  ·simp only[Option.some.injEq,Prod.mk.injEq] at h
   obtain⟨rfl,rfl⟩:=h
   simp only[VR] at hy
   subst hy
   exact Ap.zmT hT _
  ·simp at h
 ·rename_i e' hT
  exact Ap.zmS hT (Hw hs.ob h hq hy)
 ·simp at h
theorem da{p:Prop}{l m:List Prop}:p∈bQ l m ↔ p∈l\/p∈m:=by rw[iC];exact List.mem_append
theorem zm2{P:Program}(hs:df W0 okIn B us tm ob nt E a){nm:Nat}(cO:¬ us nm){T T' ty:TypeId}{x y r:AV}{v z:Value}{q:List Prop}{u:cx}(h:Dw P T T' ob nm x y=some (q,r,u))(hq:∀ p∈q,p)
  (hx:VR E x v) (hy:VR E y z):∃ E' w,(Builtin.append_ #[T,T'] ty #[v,z]).run P E.w=.ok w E'.w/\cK W0 okIn B us (eC us nm) E E' u/\VR E' r w/\r.nm (eC us nm):=by
 unfold Dw at h
 split at h
 ·rename_i el hT
  split at h
  ·simp at h
  ·rename_i e he
   split at h
   ·simp at h
   ·rename_i ys eU jJ
    split at h
    ·simp only[Option.some.injEq,Prod.mk.injEq] at h
     obtain⟨rfl,rfl,rfl⟩:=h
     have mM:=Rs hs jJ (fun p hp=>hq p (da.2 (.inl hp))) hy
     have hr:roomy P el ys.length:=hq _ (da.2 (.inr (List.Mem.head _)))
     simp only[VR] at hx
     subst hx
     obtain⟨E',w,h1,h2,h3⟩:=append_nil (ty:=ty) hs cO hT he mM hr
     exact⟨E',w,h1,h2,h3,oY⟩
    ·rename_i n e'
     split at h
     ·rename_i nq xs b8
      split at h
      ·rename_i AL
       subst AL
       simp only[Option.some.injEq,Prod.mk.injEq] at h
       obtain⟨rfl,rfl,rfl⟩:=h
       have mM:=Rs hs jJ (fun p hp=>hq p (da.2 (.inl hp))) hy
       have hr:roomy P el (xs.length+ys.length):=hq _ (da.2 (.inr (List.Mem.head _)))
       obtain⟨L0,k1,k2,k3,_⟩:=AD (.inl (hs.obj _ _ b8).1) hx
       obtain⟨E',w,h1,h2,h3⟩:=YW (ty:=ty) hs cO hT he b8 (fun L hL=>by obtain rfl:L0=L:=Option.some.inj (k1.symm.trans hL);exact⟨k2,k3⟩) mM hr
       exact⟨E',w,h1,h2,h3,oY⟩
      ·simp at h
     ·simp at h
    ·rename_i n e' off len
     split at h
     ·rename_i nq xs b8
      split at h
      ·rename_i AL
       subst AL
       simp only[Option.some.injEq,Prod.mk.injEq] at h
       obtain⟨rfl,rfl,rfl⟩:=h
       have mM:=Rs hs jJ (fun p hp=>hq p (da.2 (.inl hp))) hy
       obtain⟨rfl,rfl,hr⟩:off=0/\len=xs.length/\roomy P el (xs.length+ys.length):=hq _ (da.2 (.inr (List.Mem.head _)))
       obtain⟨E',w,h1,h2,h3⟩:=YW (ty:=ty) hs cO hT he b8 (fun L hL=>by
        simp only[VR] at hx
        obtain⟨base,hv,g1,g2,_⟩:=hx.2 L hL
        rw[g2 trivial] at hv
        exact⟨hv,by omega⟩) mM hr
       exact⟨E',w,h1,h2,h3,oY⟩
      ·simp at h
     ·simp at h
    ·simp at h
 ·simp at h
theorem Hz{α:Type}{off len:Nat}{ys xs:List α}(h:off+len<=xs.length):(bH off len ys xs).length=xs.length:=by
 unfold bH;simp;omega
theorem YZ{α:Type}{off len:Nat}{ys xs:List α}(h:off+len<=xs.length){j:Nat}(hj:j<xs.length)(ly:j<(bH off len ys xs).length):
  (bH off len ys xs)[j]=if hh:off<=j/\j<off+min len ys.length then ys[j-off]'(by omega) else xs[j]:=by
 unfold bH at ly ⊢
 split
 ·rename_i hh
  rw[List.getElem_append_right (by simp;omega),List.getElem_append_left (by simp;omega),List.getElem_take]
  congr 1
  simp
  omega
 ·rename_i hh
  by_cases h1:j<off
  ·rw[List.getElem_append_left (by simp;omega),List.getElem_take]
  ·rw[List.getElem_append_right (by simp;omega),List.getElem_append_right (by simp;omega),List.getElem_drop]
   congr 1
   simp
   omega
theorem zm3{P:Program}{T T' ty el:TypeId}{e:Sh}{yp:Nat->Prop}{ys:List e.T}{z:Value}{base:Option Addr}{len cap:Nat}(hT:P.underlying T=some (.slice el))(cq:iA P el=some e.size)(hr:Rd E.w E.ok yp e ys z){m:Nat}(hm:min len ys.length=m):
  ∃ news:List Value,news.length=m*e.size/\(∀ v∈news,eL v)/\(∀ i (hi:i<m),aN E.w E.ok e (ys[i]'(by omega)) ((news.drop (i*e.size)).take e.size))/\
   ∀ (w':World),(match base with | some ad=>storeCells ad news | none=>(pure ():Sem Unit)).run P E.w=.ok () w'->(Builtin.copy_ #[T,T'] ty #[.slice base len cap,z]).run P E.w=.ok (.int .i64 ((m:Nat):Int)) w':=by
 obtain⟨DZ,MS,rfl,c1,c2⟩:=hr
 have HA:Nat.min ys.length len=m:=by rw[<-hm];exact Nat.min_comm _ _
 have D0:∃ news:List Value,news.length=m*e.size/\(Builtin.firstCells e.size m (.slice DZ ys.length MS)).run P E.w=.ok news.toArray E.w/\(∀ v∈news,v.oneCell'=true)/\
   ∀ i (hi:i<m),aN E.w E.ok e (ys[i]'(by omega)) ((news.drop (i*e.size)).take e.size):=by
  by_cases nZ:m=0
  ·refine⟨[],by rw[nZ];simp,?_,by simp,fun i hi=>by omega⟩
   rw[nZ]
   cases DZ with
   | none=>simp[Builtin.firstCells]
   | some ad=>
    simp only[Builtin.firstCells,Nat.zero_mul]
    exact run_loadCells_list (P:=P) E.w ad [] (by simp)
  ·rcases c2 with c2 | ⟨Rt,o2,rfl,_,c2⟩
   ·omega
   ·obtain⟨news,g1,g2,g3⟩:=MP Rt (ys.take m) o2 (fun i hi=>by
     have dD:i<ys.length:=by simp at hi;omega
     obtain⟨cs,d1,d2,d3⟩:=c2 i dD
     exact⟨cs,d1,d2,by rw[List.getElem_take];exact d3⟩)
    have jo:(ys.take m).length=m:=by simp;omega
    rw[jo] at g1
    refine⟨news,g1,?_,Rp (xs:=ys.take m) (by rw[jo];exact g1) g3,fun i hi=>by
     have:=g3 i (by rw[jo];exact hi)
     rwa [List.getElem_take] at this⟩
    simp only[Builtin.firstCells]
    rw[<-g1]
    refine run_loadCells_list (P:=P) E.w _ news fun j u hj=>?_
    have sB:j<news.length:=by
     rcases Nat.lt_or_ge j news.length with hlt | hge
     ·exact hlt
     ·rw[List.getElem?_eq_none hge] at hj;simp at hj
    rw[jc,g2 j sB]
    rw[List.getElem?_eq_getElem sB] at hj
    exact hj
 obtain⟨news,n1,n2,n3,n4⟩:=D0
 refine⟨news,n1,fun v hv=>YP (n3 v hv),n4,fun w' hw=>?_⟩
 have HB:(sizeOf el).run P E.w=.ok e.size E.w:=kd E.w cq
 cases base with
 | none=>
  simp only[Sem.run_pure,Result.ok.injEq,true_and] at hw
  subst hw
  simp[Builtin.copy_,run_underlying hT,Builtin.lenOf,HB,HA,n2,goInt]
 | some ad=>
  simp only at hw
  simp[Builtin.copy_,run_underlying hT,Builtin.lenOf,HB,HA,n2,hw,goInt]
theorem Y0{w:World}{ok:Nat->Prop}{e:Sh}{off len:Nat}{ys xs:List e.T}{part news:List Value}{m:Nat}(hm:min len ys.length=m)(hle:off+len<=xs.length)(hp:xs.length*e.size<=part.length)
  (hx:∀ i (h:i<xs.length),aN w ok e (xs[i]'h) ((part.drop (i*e.size)).take e.size)) (n1:news.length=m*e.size)
  (n4:∀ i (hi:i<m),aN w ok e (ys[i]'(by omega)) ((news.drop (i*e.size)).take e.size)):
  ∀ j (h:j<(bH off len ys xs).length),aN w ok e ((bH off len ys xs)[j]'h) (((part.take (off*e.size)++news++part.drop (off*e.size+news.length)).drop (j*e.size)).take e.size):=by
 intro j hj
 have dh:=Hz (ys:=ys) hle
 have ly:j<xs.length:=by rw[dh] at hj;exact hj
 have AM:(off+m)*e.size<=xs.length*e.size:=Nat.mul_le_mul_right _ (by omega)
 rw[Nat.add_mul] at AM
 have D3:(j+1)*e.size<=xs.length*e.size:=Nat.mul_le_mul_right _ (by omega)
 rw[Nat.succ_mul] at D3
 rw[YZ hle ly]
 split
 ·rename_i hh
  rw[hm] at hh
  have nY:(j-off)*e.size=j*e.size-off*e.size:=Nat.sub_mul ..
  have h1:off*e.size<=j*e.size:=Nat.mul_le_mul_right _ hh.1
  have h2:(j+1)*e.size<=(off+m)*e.size:=Nat.mul_le_mul_right _ hh.2
  rw[Nat.succ_mul,Nat.add_mul] at h2
  have he:((part.take (off*e.size)++news++part.drop (off*e.size+news.length)).drop (j*e.size)).take e.size=(news.drop ((j-off)*e.size)).take e.size:=by
   apply List.ext_getElem?
   intro t
   simp only[List.getElem?_take,List.getElem?_drop]
   rw[qN _ _ _ _ (by rw[n1];omega)]
   by_cases ht:t<e.size
   ·rw[if_pos ht,if_pos ht,if_neg (by omega),if_pos (by rw[n1];omega)]
    congr 1
    omega
   ·rw[if_neg ht,if_neg ht]
  rw[he]
  exact n4 (j-off) (by omega)
 ·rename_i hh
  rw[hm] at hh
  have he:((part.take (off*e.size)++news++part.drop (off*e.size+news.length)).drop (j*e.size)).take e.size=(part.drop (j*e.size)).take e.size:=by
   apply List.ext_getElem?
   intro t
   simp only[List.getElem?_take,List.getElem?_drop]
   rw[qN _ _ _ _ (by rw[n1];omega)]
   by_cases ht:t<e.size
   ·rw[if_pos ht,if_pos ht]
    by_cases h1:j<off
    ·have h2:(j+1)*e.size<=off*e.size:=Nat.mul_le_mul_right _ h1
     rw[Nat.succ_mul] at h2
     rw[if_pos (by omega)]
    ·have h2:(off+m)*e.size<=j*e.size:=Nat.mul_le_mul_right _ (by omega)
     rw[Nat.add_mul] at h2
     rw[if_neg (by omega),if_neg (by rw[n1];omega)]
   ·rw[if_neg ht,if_neg ht]
  rw[he]
  exact hx j ly
theorem zm4{P:Program}(dJ:jm W0 okIn B E){nm n:Nat}{e' se:Sh}{xs:List e'.T}{i at' m off len o b mm:Nat}{t:List se.T}{zz:e'.T}{ys:List se.T}{news:List Value}{L:Loc}{cells:Array Value}{T0:TypeId}{fr:Nat×Nat}(h3:us n)
  (k1:E.mu n=some L) (kl:L.len=xs.length) (k3:L.base=some ⟨b,0,none⟩) (k4:L.own=true) (k5:E.w.heap[b]? =some (.cells cells T0 fr)) (k6:cells.size=L.cap*e'.size) (k7:xs.length<=L.cap) (k8:G1 fr cells.size)
  (k9:∀ i (h:i<xs.length),aN E.w E.ok e' (xs[i]'h) ((cells.toList.drop (i*e'.size)).take e'.size)) (hi:i<xs.length) (ht:rX (.arr m se) e' xs[i] at'=some t) (va:rY (.arr m se) (bH off len ys t) e' xs[i] at'=some zz)
  (x1:off+len<=m) (x2:0<len->o=i*e'.size+at'+off*se.size) (hm:min len ys.length=mm) (n1:news.length=mm*se.size) (n2:∀ v∈news,eL v) (n3:∀ j (hj:j<mm),aN E.w E.ok se (ys[j]'(by omega)) ((news.drop (j*se.size)).take se.size)):
  ∃ dQ:Array Value,(storeCells ⟨b,o,none⟩ news).run P E.w=.ok () (E.w.setRow b dQ)/\cK W0 okIn B us (eC us nm) E ⟨E.w.setRow b dQ,E.mu,E.ok⟩ [(n,some (.rows e' (xs.set i zz)))]:=by
 obtain⟨p1,p2⟩:=Hn e' ht (k9 i hi)
 simp only[Sh.size] at p1
 have o7:i*e'.size+e'.size<=cells.size:=by
  have:=Nat.mul_le_mul_right e'.size (show i+1<=L.cap by omega)
  rw[Nat.add_mul i 1] at this;omega
 have u7:((cells.toList.drop (i*e'.size)).take e'.size).length=e'.size:=by simp;omega
 rw[u7] at p1
 obtain⟨part,HC⟩:∃ part,part=(((cells.toList.drop (i*e'.size)).take e'.size).drop at').take (m*se.size):=⟨_,rfl⟩
 simp only[Sh.size] at p2
 rw[<-HC] at p2
 simp only[aN] at p2
 obtain⟨c1,c2,c3⟩:=p2
 have jo:off+len<=List.length t:=by rw[c1];exact x1
 have AM:(off+mm)*se.size<=m*se.size:=Nat.mul_le_mul_right _ (by omega)
 rw[Nat.add_mul,<-n1] at AM
 have yn:aN E.w E.ok (.arr m se) (bH off len ys t) (part.take (off*se.size)++news++part.drop (off*se.size+news.length)):=by
  simp only[aN]
  refine⟨by rw[Hz jo,c1],?_,Y0 hm jo (by rw[c1,c2];exact Nat.le_refl _) c3 n1 n3⟩
  simp;omega
 obtain⟨s1,s2⟩:=MC e' va (k9 i hi) yn
 simp only[Sh.size] at s1 s2
 have dS:cV E n b:=⟨_,k1,k4,k3⟩
 
 have gq:∃ dQ:Array Value,(storeCells ⟨b,o,none⟩ news).run P E.w=.ok () (E.w.setRow b dQ)/\dQ.toList=cells.toList.take (i*e'.size+at'+off*se.size)++news++cells.toList.drop (i*e'.size+at'+off*se.size+news.length):=by
  by_cases nZ:len=0
  ·have jq:news=[]:=List.eq_nil_of_length_eq_zero (by rw[n1,<-hm,nZ];simp)
   subst jq
   refine⟨cells,?_,by simp⟩
   rw[setRow_self E.w b cells T0 fr k5]
   simp[storeCells]
  ·have ho:=x2 (by omega)
   subst ho
   have hst:=wE (P:=P) b T0 fr news (i*e'.size+at'+off*se.size) 0 cells E.w k5 k8 (by omega) n2
   simp only[Nat.add_zero] at hst
   exact⟨_,hst,by simp⟩
 obtain⟨dQ,hst,HD⟩:=gq
 have eJ:∀ c,c<E.w.heap.size->¬ cV E n c->(E.w.setRow b dQ).heap[c]? =E.w.heap[c]? :=
  fun c hc fV=>setRow_other _ _ _ _ fun lV=>fV (lV▸dS)
 have cR:=AH dJ eJ
 have sC:dQ.size=cells.size:=by
  have:dQ.toList.length=cells.toList.length:=by rw[HD];simp;omega
  simpa using this
 have jY:dQ.toList=cells.toList.take (i*e'.size+at')++(part.take (off*se.size)++news++part.drop (off*se.size+news.length))++cells.toList.drop (i*e'.size+at'+m*se.size):=by
  have jG:part.length=m*se.size:=c2
  apply List.ext_getElem?
  intro k
  have yg:(part.take (off*se.size)++news++part.drop (off*se.size+news.length)).length=m*se.size:=by simp;omega
  rw[HD,qN _ _ _ _ (by simp;omega)]
  have:=qN cells.toList (part.take (off*se.size)++news++part.drop (off*se.size+news.length)) (i*e'.size+at') k (by rw[yg];simp;omega)
  rw[yg] at this
  rw[this]
  by_cases d1:k<i*e'.size+at'
  ·rw[if_pos (by omega),if_pos d1]
  ·rw[if_neg d1]
   by_cases d2:k<i*e'.size+at'+m*se.size
   ·rw[if_pos d2,qN _ _ _ _ (by omega)]
    have AN:∀ q,q<m*se.size->part[q]? =cells.toList[i*e'.size+at'+q]? :=by
     intro q wB
     rw[HC,List.getElem?_take,if_pos wB,List.getElem?_drop,List.getElem?_take,if_pos (by omega),List.getElem?_drop]
     congr 1
     omega
    by_cases d3:k<i*e'.size+at'+off*se.size
    ·rw[if_pos d3,if_pos (by omega),AN _ (by omega)]
     congr 1
     omega
    ·rw[if_neg d3]
     by_cases d4:k<i*e'.size+at'+off*se.size+news.length
     ·rw[if_pos d4,if_neg (by omega),if_pos (by omega)]
      congr 1
      omega
     ·rw[if_neg d4,if_neg (by omega),if_neg (by omega),AN _ (by omega)]
      congr 1
      omega
   ·rw[if_neg d2,if_neg (by omega),if_neg (by omega)]
 refine⟨dQ,hst,cK.set dJ h3 eJ (setRow_size _ _ _) rfl rfl rfl ?_ (by simp[AO.nm])⟩
 have AP:(part.take (off*se.size)++news++part.drop (off*se.size+news.length)).length=m*se.size:=by
  have:part.length=m*se.size:=c2
  simp;omega
 have yq:at'+(part.take (off*se.size)++news++part.drop (off*se.size+news.length)).length<=e'.size:=by rw[AP];exact p1
 have HE:dQ.toList=cells.toList.take (i*e'.size+at')++(part.take (off*se.size)++news++part.drop (off*se.size+news.length))++cells.toList.drop (i*e'.size+at'+(part.take (off*se.size)++news++part.drop (off*se.size+news.length)).length):=by
  rw[AP];exact jY
 refine⟨L,k1,by simpa using kl,.inr ⟨b,_,T0,fr,k3,k4,setRow_heap E.w b cells _ T0 fr k5,by rw[sC];exact k6,by simpa using k7,by rw[sC];exact k8,?_⟩⟩
 intro j hj
 refine aN.mono cR (fun _ h=>h) _ _ _ ?_
 simp only[List.length_set] at hj
 by_cases lW:j=i
 ·subst lW
  simp only[List.getElem_set_self]
  rw[HE,ML _ _ _ _ _ (by simpa using o7) yq,AP]
  exact s2
 ·simp only[List.getElem_set_ne (Ne.symm lW)]
  rw[HE,MM _ _ _ _ _ _ (by simpa using o7) yq lW]
  exact k9 j hj
theorem zm5{P:Program}(hs:df W0 okIn B us tm ob nt E a){nm:Nat}{T T' ty:TypeId}{x y r:AV}{v z:Value}{q:List Prop}{u:cx}(h:Dx P T ob x y=some (q,r,u))(hq:∀ p∈q,p)
  (hx:VR E x v) (hy:VR E y z):∃ E' w,(Builtin.copy_ #[T,T'] ty #[v,z]).run P E.w=.ok w E'.w/\cK W0 okIn B us (eC us nm) E E' u/\VR E' r w/\r.nm (eC us nm):=by
 unfold Dx at h
 split at h
 ·rename_i el hT
  split at h
  ·rename_i s cq
   split at h
   ·rename_i n e off len
    split at h
    ·rename_i hb
     split at h
     ·rename_i e' xs b8
      split at h
      ·rename_i ys eU sD
       split at h
       ·rename_i he
        subst he
        simp only[Option.some.injEq,Prod.mk.injEq] at h
        obtain⟨rfl,rfl,rfl⟩:=h
        have hU:=beq_true hb
        subst hU
        have hle:off+len<=xs.length:=hq _ (da.2 (.inr (List.Mem.head _)))
        have hr:=Hw hs.ob sD (fun p hp=>hq p (da.2 (.inl hp))) hy
        obtain⟨h1,h2,h3⟩:=hs.obj n _ b8
        obtain⟨L,k1,kl,k2⟩:=h1
        simp only[VR] at hx
        obtain⟨base,rfl,b1,b2,b3⟩:=hx.2 L k1
        obtain⟨DZ,MS,rfl,c1,c2⟩:=hr
        generalize hm:min len ys.length=m
        have HA:Nat.min ys.length len=m:=by rw[<-hm];exact Nat.min_comm _ _
        
        have D0:∃ news:List Value,news.length=m*e'.size/\(Builtin.firstCells e'.size m (.slice DZ ys.length MS)).run P E.w=.ok news.toArray E.w/\(∀ v∈news,v.oneCell'=true)/\
          ∀ i (hi:i<m),aN E.w E.ok e' (ys[i]'(by omega)) ((news.drop (i*e'.size)).take e'.size):=by
         by_cases nZ:m=0
         ·refine⟨[],by rw[nZ];simp,?_,by simp,fun i hi=>by omega⟩
          rw[nZ]
          cases DZ with
          | none=>simp[Builtin.firstCells]
          | some ad=>
           simp only[Builtin.firstCells,Nat.zero_mul]
           exact run_loadCells_list (P:=P) E.w ad [] (by simp)
         ·rcases c2 with c2 | ⟨Rt,o2,rfl,_,c2⟩
          ·omega
          ·obtain⟨news,g1,g2,g3⟩:=MP Rt (ys.take m) o2 (fun i hi=>by
            have dD:i<ys.length:=by simp at hi;omega
            obtain⟨cs,d1,d2,d3⟩:=c2 i dD
            exact⟨cs,d1,d2,by rw[List.getElem_take];exact d3⟩)
           have jo:(ys.take m).length=m:=by simp;omega
           rw[jo] at g1
           refine⟨news,g1,?_,Rp (xs:=ys.take m) (by rw[jo];exact g1) g3,fun i hi=>by
            have:=g3 i (by rw[jo];exact hi)
            rwa [List.getElem_take] at this⟩
           simp only[Builtin.firstCells]
           rw[<-g1]
           refine run_loadCells_list (P:=P) E.w _ news fun j u hj=>?_
           have sB:j<news.length:=by
            rcases Nat.lt_or_ge j news.length with hlt | hge
            ·exact hlt
            ·rw[List.getElem?_eq_none hge] at hj;simp at hj
           rw[jc,g2 j sB]
           rw[List.getElem?_eq_getElem sB] at hj
           exact hj
        obtain⟨news,n1,n2,n3,n4⟩:=D0
        have dE:∀ (w':World),(match base with | some ad=>storeCells ad news | none=>(pure ():Sem Unit)).run P E.w=.ok () w'->(Builtin.copy_ #[T,T'] ty #[.slice base len (L.cap-off),.slice DZ ys.length MS]).run P E.w=.ok (.int .i64 ((m:Nat):Int)) w':=by
         intro w' hw
         have HB:(sizeOf el).run P E.w=.ok e'.size E.w:=kd E.w cq
         cases base with
         | none=>
          simp only[Sem.run_pure,Result.ok.injEq,true_and] at hw
          subst hw
          simp[Builtin.copy_,run_underlying hT,Builtin.lenOf,HB,HA,n2,goInt]
         | some ad=>
          simp only at hw
          simp[Builtin.copy_,run_underlying hT,Builtin.lenOf,HB,HA,n2,hw,goInt]
        have hint:∀ (E':Env),VR E' (.int .i64 ((m:Nat):Int)) (.int .i64 ((m:Nat):Int)):=fun E'=>by simp only[VR]
        have dh:=Hz (ys:=ys) hle
        by_cases nZ:m=0
        ·have jq:news=[]:=by rw[nZ,Nat.zero_mul] at n1;exact List.eq_nil_of_length_eq_zero n1
         have zm6:bH off len ys xs=xs:=by
          unfold bH
          rw[hm,nZ]
          have:ys.take len=[]:=by apply List.eq_nil_of_length_eq_zero;rw[List.length_take];omega
          rw[this];simp
         refine⟨⟨E.w,E.mu,E.ok⟩,_,dE _ ?_,cK.set hs.env h3 (fun _ _ _=>rfl) rfl rfl rfl rfl (by rw[zm6];exact⟨L,k1,kl,k2⟩) (by simp[AO.nm]),hint _,by simp[AV.nm]⟩
         subst jq
         cases base<;>simp[storeCells]
        ·rcases k2 with⟨_,k2,_⟩ | ⟨b,cells,T0,fr,k3,k4,k5,k6,k7,k8,k9⟩
         ·omega
         have dS:cV E n b:=⟨_,k1,k4,k3⟩
         have zm7:base=some ⟨b,off*e'.size,none⟩:=by
          rw[b3 (by omega),k3]
          simp[jc]
         subst zm7
         have AM:(off+m)*e'.size<=L.cap*e'.size:=Nat.mul_le_mul_right _ (by omega)
         rw[Nat.add_mul] at AM
         have hst:=wE (P:=P) b T0 fr news (off*e'.size) 0 cells E.w k5 k8 (by rw[n1,k6];omega) (fun v hv=>by
          have:=n3 v hv
          cases v<;>first | trivial | (simp[Value.oneCell'] at this))
         simp only[Nat.add_zero] at hst
         have eJ:∀ c,c<E.w.heap.size->¬ cV E n c->(E.w.setRow b (cells.toList.take (off*e'.size)++news++cells.toList.drop (off*e'.size+news.length)).toArray).heap[c]? =E.w.heap[c]? :=
          fun c hc fV=>setRow_other _ _ _ _ fun lV=>fV (lV▸dS)
         have cR:=AH hs.env eJ
         have yo:(cells.toList.take (off*e'.size)++news++cells.toList.drop (off*e'.size+news.length)).length=cells.size:=by
          rw[n1]
          simp
          omega
         refine⟨⟨_,E.mu,E.ok⟩,_,dE _ hst,cK.set hs.env h3 eJ (setRow_size _ _ _) rfl rfl rfl ?_ (by simp[AO.nm]),hint _,by simp[AV.nm]⟩
         refine⟨L,k1,by rw[dh];exact kl,.inr ⟨b,_,T0,fr,k3,k4,setRow_heap E.w b cells _ T0 fr k5,by simpa [k6] using yo,by rw[dh];exact k7,?_,?_⟩⟩
         ·intro j hj
          exact k8 j (by rw[List.size_toArray,yo] at hj;exact hj)
         ·intro j hj
          refine aN.mono cR (fun _ h=>h) _ _ _ ?_
          rw[dh] at hj
          have D3:(j+1)*e'.size<=L.cap*e'.size:=Nat.mul_le_mul_right _ (by omega)
          rw[Nat.succ_mul] at D3
          rw[YZ hle hj,List.toList_toArray]
          split
          ·rename_i hh
           rw[hm] at hh
           have nY:(j-off)*e'.size=j*e'.size-off*e'.size:=Nat.sub_mul ..
           have h1:off*e'.size<=j*e'.size:=Nat.mul_le_mul_right _ hh.1
           have h2:(j+1)*e'.size<=(off+m)*e'.size:=Nat.mul_le_mul_right _ hh.2
           rw[Nat.succ_mul,Nat.add_mul] at h2
           have he:((cells.toList.take (off*e'.size)++news++cells.toList.drop (off*e'.size+news.length)).drop (j*e'.size)).take e'.size=(news.drop ((j-off)*e'.size)).take e'.size:=by
            apply List.ext_getElem?
            intro t
            simp only[List.getElem?_take,List.getElem?_drop]
            rw[qN _ _ _ _ (by rw[n1,Array.length_toList,k6];omega)]
            by_cases ht:t<e'.size
            ·rw[if_pos ht,if_pos ht,if_neg (by omega),if_pos (by rw[n1];omega)]
             congr 1
             omega
            ·rw[if_neg ht,if_neg ht]
           rw[he]
           exact n4 (j-off) (by omega)
          ·rename_i hh
           rw[hm] at hh
           have he:((cells.toList.take (off*e'.size)++news++cells.toList.drop (off*e'.size+news.length)).drop (j*e'.size)).take e'.size=(cells.toList.drop (j*e'.size)).take e'.size:=by
            apply List.ext_getElem?
            intro t
            simp only[List.getElem?_take,List.getElem?_drop]
            rw[qN _ _ _ _ (by rw[n1,Array.length_toList,k6];omega)]
            by_cases ht:t<e'.size
            ·rw[if_pos ht,if_pos ht]
             by_cases h1:j<off
             ·have h2:(j+1)*e'.size<=off*e'.size:=Nat.mul_le_mul_right _ h1
              rw[Nat.succ_mul] at h2
              rw[if_pos (by omega)]
             ·have h2:(off+m)*e'.size<=j*e'.size:=Nat.mul_le_mul_right _ (by omega)
              rw[Nat.add_mul] at h2
              rw[if_neg (by omega),if_neg (by rw[n1];omega)]
            ·rw[if_neg ht,if_neg ht]
           rw[he]
           exact k9 j hj
       ·simp at h
      ·simp at h
     ·simp at h
    ·simp at h
   ·rename_i n e i at' m se off len
    split at h
    case h_2=>simp at h
    rename_i hb
    split at h
    case h_2=>simp at h
    rename_i e' xs b8
    split at h
    case h_2=>simp at h
    rename_i ys eU sD
    split at h
    case isFalse=>simp at h
    rename_i he
    subst he
    split at h
    case h_2=>simp at h
    rename_i t ht
    split at h
    case h_2=>simp at h
    rename_i zz va
    simp only[Option.some.injEq,Prod.mk.injEq] at h
    obtain⟨rfl,rfl,rfl⟩:=h
    have hU:=beq_true hb
    subst hU
    have hi:i<xs.length:=hq _ (da.2 (.inr (List.Mem.head _)))
    have hr:=Hw hs.ob sD (fun p hp=>hq p (da.2 (.inl hp))) hy
    obtain⟨h1,h2,h3⟩:=hs.obj n _ b8
    obtain⟨L,k1,kl,k2⟩:=h1
    rcases k2 with k2 | ⟨b,cells,T0,fr,k3,k4,k5,k6,k7,k8,k9⟩
    ·omega
    simp only[VR] at hx
    obtain⟨b',o,cL,rfl,x1,x2⟩:=hx.2 L k1
    rw[k3] at cL
    simp only[Option.some.injEq,Addr.mk.injEq,and_true] at cL
    subst cL
    obtain⟨news,n1,n2,n3,n4⟩:=zm3 (T':=T') (ty:=ty) (base:=some ⟨b,o,none⟩) (len:=len) (cap:=m-off) hT cq hr rfl
    rw[getD_eq hi] at ht va
    obtain⟨p1,p2⟩:=Hn e' ht (k9 i hi)
    simp only[Sh.size] at p1
    have o7:i*e'.size+e'.size<=cells.size:=by
     have:=Nat.mul_le_mul_right e'.size (show i+1<=L.cap by omega)
     rw[Nat.add_mul i 1] at this;omega
    have u7:((cells.toList.drop (i*e'.size)).take e'.size).length=e'.size:=by simp;omega
    rw[u7] at p1
    obtain⟨part,HC⟩:∃ part,part=(((cells.toList.drop (i*e'.size)).take e'.size).drop at').take (m*se.size):=⟨_,rfl⟩
    simp only[Sh.size] at p2
    rw[<-HC] at p2
    simp only[aN] at p2
    obtain⟨c1,c2,c3⟩:=p2
    have jo:off+len<=List.length t:=by rw[c1];exact x1
    have AM:(off+min len ys.length)*se.size<=m*se.size:=Nat.mul_le_mul_right _ (by omega)
    rw[Nat.add_mul,<-n1] at AM
    have yn:aN E.w E.ok (.arr m se) (bH off len ys t) (part.take (off*se.size)++news++part.drop (off*se.size+news.length)):=by
     simp only[aN]
     refine⟨by rw[Hz jo,c1],?_,Y0 rfl jo (by rw[c1,c2];exact Nat.le_refl _) c3 n1 n3⟩
     simp;omega
    obtain⟨s1,s2⟩:=MC e' va (k9 i hi) yn
    simp only[Sh.size] at s1 s2
    have dS:cV E n b:=⟨_,k1,k4,k3⟩
    have hint:∀ (E':Env),VR E' (.int .i64 ((min len ys.length:Nat):Int)) (.int .i64 ((min len ys.length:Nat):Int)):=fun E'=>by simp only[VR]
    
    have gq:∃ dQ:Array Value,(storeCells ⟨b,o,none⟩ news).run P E.w=.ok () (E.w.setRow b dQ)/\dQ.toList=cells.toList.take (i*e'.size+at'+off*se.size)++news++cells.toList.drop (i*e'.size+at'+off*se.size+news.length):=by
     by_cases nZ:len=0
     ·have jq:news=[]:=List.eq_nil_of_length_eq_zero (by rw[n1,nZ];simp)
      subst jq
      refine⟨cells,?_,by simp⟩
      rw[setRow_self E.w b cells T0 fr k5]
      simp[storeCells]
     ·have ho:=x2 (by omega)
      subst ho
      have hst:=wE (P:=P) b T0 fr news (i*e'.size+at'+off*se.size) 0 cells E.w k5 k8 (by omega) n2
      simp only[Nat.add_zero] at hst
      exact⟨_,hst,by simp⟩
    obtain⟨dQ,hst,HD⟩:=gq
    have eJ:∀ c,c<E.w.heap.size->¬ cV E n c->(E.w.setRow b dQ).heap[c]? =E.w.heap[c]? :=
     fun c hc fV=>setRow_other _ _ _ _ fun lV=>fV (lV▸dS)
    have cR:=AH hs.env eJ
    have sC:dQ.size=cells.size:=by
     have:dQ.toList.length=cells.toList.length:=by rw[HD];simp;omega
     simpa using this
    have jY:dQ.toList=cells.toList.take (i*e'.size+at')++(part.take (off*se.size)++news++part.drop (off*se.size+news.length))++cells.toList.drop (i*e'.size+at'+m*se.size):=by
     have jG:part.length=m*se.size:=c2
     apply List.ext_getElem?
     intro k
     have yg:(part.take (off*se.size)++news++part.drop (off*se.size+news.length)).length=m*se.size:=by simp;omega
     rw[HD,qN _ _ _ _ (by simp;omega)]
     have:=qN cells.toList (part.take (off*se.size)++news++part.drop (off*se.size+news.length)) (i*e'.size+at') k (by rw[yg];simp;omega)
     rw[yg] at this
     rw[this]
     by_cases d1:k<i*e'.size+at'
     ·rw[if_pos (by omega),if_pos d1]
     ·rw[if_neg d1]
      by_cases d2:k<i*e'.size+at'+m*se.size
      ·rw[if_pos d2,qN _ _ _ _ (by omega)]
       have AN:∀ q,q<m*se.size->part[q]? =cells.toList[i*e'.size+at'+q]? :=by
        intro q wB
        rw[HC,List.getElem?_take,if_pos wB,List.getElem?_drop,List.getElem?_take,if_pos (by omega),List.getElem?_drop]
        congr 1
        omega
       by_cases d3:k<i*e'.size+at'+off*se.size
       ·rw[if_pos d3,if_pos (by omega),AN _ (by omega)]
        congr 1
        omega
       ·rw[if_neg d3]
        by_cases d4:k<i*e'.size+at'+off*se.size+news.length
        ·rw[if_pos d4,if_neg (by omega),if_pos (by omega)]
         congr 1
         omega
        ·rw[if_neg d4,if_neg (by omega),if_neg (by omega),AN _ (by omega)]
         congr 1
         omega
      ·rw[if_neg d2,if_neg (by omega),if_neg (by omega)]
    refine⟨⟨_,E.mu,E.ok⟩,_,n4 _ hst,cK.set hs.env h3 eJ (setRow_size _ _ _) rfl rfl rfl ?_ (by simp[AO.nm]),hint _,by simp[AV.nm]⟩
    have AP:(part.take (off*se.size)++news++part.drop (off*se.size+news.length)).length=m*se.size:=by
     have:part.length=m*se.size:=c2
     simp;omega
    have yq:at'+(part.take (off*se.size)++news++part.drop (off*se.size+news.length)).length<=e'.size:=by rw[AP];exact p1
    have HE:dQ.toList=cells.toList.take (i*e'.size+at')++(part.take (off*se.size)++news++part.drop (off*se.size+news.length))++cells.toList.drop (i*e'.size+at'+(part.take (off*se.size)++news++part.drop (off*se.size+news.length)).length):=by
     rw[AP];exact jY
    refine⟨L,k1,by simpa using kl,.inr ⟨b,_,T0,fr,k3,k4,setRow_heap E.w b cells _ T0 fr k5,by rw[sC];exact k6,by simpa using k7,by rw[sC];exact k8,?_⟩⟩
    intro j hj
    refine aN.mono cR (fun _ h=>h) _ _ _ ?_
    simp only[List.length_set] at hj
    by_cases lW:j=i
    ·subst lW
     simp only[List.getElem_set_self]
     rw[HE,ML _ _ _ _ _ (by simpa using o7) yq,AP]
     exact s2
    ·simp only[List.getElem_set_ne (Ne.symm lW)]
     rw[HE,MM _ _ _ _ _ _ (by simpa using o7) yq lW]
     exact k9 j hj
   ·simp at h
  ·simp at h
 ·simp at h
theorem zm8{P:Program}(w:World){src dst:TypeId}{k k':IntKind}{n:Int}{s:TypeDesc}(hs:P.underlying src=some s)(hd:P.underlying dst=some (.int k')):
  (convert src dst (.int k n)).run P w=.ok (.int k' (k'.wrap n)) w:=by
 simp[convert,run_underlying hs,run_underlying hd,Conv.intToInt]
theorem zm9{P:Program}(hs:df W0 okIn B us tm ob nt E a){nm:Nat}(cO:¬ us nm){src dst:TypeId}{x r:AV}{v:Value}{q:List Prop}{u:cx}(h:Dt P src dst ob nm x=some (q,r,u))(hq:∀ p∈q,p)
  (hx:VR E x v):∃ E' w,(convert src dst v).run P E.w=.ok w E'.w/\cK W0 okIn B us (eC us nm) E E' u/\VR E' r w/\r.nm (eC us nm):=by
 unfold Dt at h
 split at h
 ·rename_i wH hd
  split at h
  ·simp only[Option.some.injEq,Prod.mk.injEq] at h
   obtain⟨rfl,rfl,rfl⟩:=h
   simp only[VR] at hx
   subst hx
   exact⟨E,_,zm8 E.w wH hd,cK.pX hs.env,VR.int,by simp[AV.nm]⟩
  ·simp at h
 ·rename_i wH hd
  split at h
  ·simp only[Option.some.injEq,Prod.mk.injEq] at h
   obtain⟨rfl,rfl,rfl⟩:=h
   simp only[VR] at hx
   subst hx
   exact⟨E,_,by simp[convert,run_underlying wH,run_underlying hd],cK.pX hs.env,VR.str,by simp[AV.nm]⟩
  ·simp at h
 ·rename_i e wH hd
  split at h
  ·rename_i l he
   simp only[Option.some.injEq,Prod.mk.injEq] at h
   obtain⟨rfl,rfl,rfl⟩:=h
   simp only[VR] at hx
   subst hx
   have HF:(⟨l.toArray⟩:ByteArray).size=l.length:=by simp[ByteArray.size]
   have hcap:=grownCap_ge E.w (⟨l.toArray⟩:ByteArray).size 0 e
   have gq:(Lib.bytesCells E.w e ⟨l.toArray⟩).size=grownCap E.w (⟨l.toArray⟩:ByteArray).size 0 e:=by
    simp only[Lib.bytesCells,Array.size_append,Array.size_map,Array.size_replicate,List.size_toArray]
    rw[HF] at hcap ⊢
    omega
   have hlen:(ofBytes l).length=l.length:=by simp[ofBytes]
   obtain⟨E',hE,iE,wC⟩:=MF (W0:=W0) (okIn:=okIn) (B:=B) hs.env hs.lo cO (e:=.int .u8) (xs:=ofBytes l) (T:=e) (w':=Lib.bytesWorld E.w e ⟨l.toArray⟩) (fr:=((Lib.bytesCells E.w e ⟨l.toArray⟩).size,(Lib.bytesCells E.w e ⟨l.toArray⟩).size+1))
    (fun b hb=>Lib.bytesWorld_at_old E.w e _ b hb) (Lib.bytesWorld_at_new E.w e _) (by rw[Lib.bytesWorld_size];omega) rfl rfl rfl (fun i hi=>by simp only;omega) (cap:=grownCap E.w (⟨l.toArray⟩:ByteArray).size 0 e)
    (by rw[gq];simp[Sh.size]) (by rw[hlen,<-HF];exact hcap) (fun i hi=>by
     have dD:i<l.length:=by rw[hlen] at hi;exact hi
     simp only[Sh.size,Nat.mul_one,aN,ofBytes,List.getElem_map]
     apply List.ext_getElem?
     intro j
     simp only[List.getElem?_take,List.getElem?_drop]
     cases j with
     | zero=>
      simp only[Nat.zero_lt_one,if_true,Nat.add_zero,List.getElem?_cons_zero]
      simp only[Lib.bytesCells,List.map_toArray,Array.toList_append,List.toList_toArray,Array.toList_replicate]
      rw[List.getElem?_append_left (by simpa using dD)]
      simp[dD]
     | succ j=>simp)
   refine⟨E',_,?_,iE,by rw[hlen] at wC;exact wC,oY⟩
   rw[hE,Lib.run_convert_string_bytes E.w src dst e _ wH hd he,HF]
  ·simp at h
 ·rename_i e wH hd
  split at h
  ·rename_i he
   split at h
   ·rename_i xs eU sD
    simp only[Option.some.injEq,Prod.mk.injEq] at h
    obtain⟨rfl,rfl,rfl⟩:=h
    obtain⟨base,cap,rfl,_,hr⟩:=Hw hs.ob sD hq hx
    have hto:(⟨(pU xs).toArray⟩:ByteArray)=strOfNums xs:=rfl
    refine⟨E,.string ⟨(pU xs).toArray⟩,?_,cK.pX hs.env,VR.str,by simp[AV.nm]⟩
    rw[hto]
    have vc:List.length (α:=Int) xs=List.length xs:=rfl
    rcases hr with hr | ⟨b,o,rfl,_,hr⟩
    ·have wI:xs=([]:List Int):=List.eq_nil_of_length_eq_zero hr
     subst wI
     cases base with
     | none=>exact run_convert_bytes_nil E.w src e wH he 0 cap dst hd
     | some ad=>
      rw[run_convert_bytes_string E.w src dst e _ _ _ wH he hd]
      have hl:(loadCells ad 0).run P E.w=.ok (([]:List Int).map (Value.int .u8)).toArray E.w:=by simp[loadCells,loadCellsFrom]
      exact run_bytesToString E.w ad 0 cap [] hl
    ·refine run_convert_bytes_arg E.w src e wH he b o _ cap xs rfl (fun i hi=>?_) dst hd
     obtain⟨cs,c1,c2,c3⟩:=hr i hi
     simp only[aN] at c3
     subst c3
     have:=c2 0 (by simp)
     simp only[Sh.size,Nat.mul_one,Nat.add_zero,List.getElem_cons_zero] at this
     rw[this,getD_eq hi]
   ·simp at h
  ·simp at h
 ·simp at h
theorem lX{α:Type}(hs:df W0 okIn B us tm ob nt E a){x:Option Operand}{d:Int}{k:List Prop->Int->Option α}{r:α}(h:gn tm x d k=some r):
  ∃ p n,k p n=some r/\((∀ q∈p,q)->(x=none/\n=d)\/∃ o kk,x=some o/\a.eval o=.int kk n):=by
 unfold gn at h
 split at h
 ·exact⟨[],d,h,fun _=>.inl ⟨rfl,rfl⟩⟩
 ·rename_i o
  obtain⟨p,v,h1,h2,h3⟩:=fR hs h
  split at h1
  ·rename_i kk n
   refine⟨p,n,h1,fun hp=>.inr ⟨o,kk,rfl,?_⟩⟩
   have:=h2 hp
   simpa only[VR] using this
  ·simp at h1
theorem run_sliceBound{P:Program}(w:World){k:IntKind}{n:Int}{y:Nat}(code:BoundsCode)(h:0<=n/\n<=(y:Int)):(Instr.sliceBound (.int k n) y code).run P w=.ok n.toNat w:=by
 simp[Instr.sliceBound,asIntOf,h]
theorem MT{P:Program}(w:World){sl:Bool}{len cap:Nat}{lo hi:Option Operand}{m n:Int}(jF:(lo=none/\m=0)\/∃ o kk,lo=some o/\a.eval o=.int kk m)(D4:(hi=none/\n=len)\/∃ o kk,hi=some o/\a.eval o=.int kk n)
  (h:0<=m/\m<=n/\n<=(len:Int)) (hc:len<=cap):(Instr.sliceBounds sl len cap (lo.map a.eval) (hi.map a.eval) none).run P w=.ok (m.toNat,n.toNat,cap) w:=by
 obtain⟨h1,h2,h3⟩:=h
 have e1:(len:Int).toNat=len:=by omega
 rcases D4 with⟨rfl,rfl⟩ | ⟨oh,kh,rfl,hh⟩
 ·rcases jF with⟨rfl,rfl⟩ | ⟨ol,kl,rfl,hl⟩
  ·simp[Instr.sliceBounds]
  ·simp[Instr.sliceBounds,hl,run_sliceBound w _ ⟨h1,h2⟩]
 ·have hn:(n.toNat:Int)=n:=by omega
  have hb:=run_sliceBound (P:=P) w (k:=kh) (y:=cap) (if sl=true then .sliceAcap else .sliceAlen) (show 0<=n/\n<=(cap:Int) by omega)
  rcases jF with⟨rfl,rfl⟩ | ⟨ol,kl,rfl,hl⟩
  ·simp[Instr.sliceBounds,hh,hb]
  ·have pY:=run_sliceBound (P:=P) w (k:=kl) (y:=n.toNat) .sliceB (show 0<=m/\m<=(n.toNat:Int) by omega)
   simp[Instr.sliceBounds,hh,hl,hb,pY]
theorem run_sliceAt_slice{P:Program}(w:World){T el:TypeId}{s:Nat}(hT:P.underlying T=some (.slice el))(hs:iA P el=some s){base:Option Addr}{len cap:Nat}{lo hi:Option Operand}{m n:Int}
  (jF:(lo=none/\m=0)\/∃ o kk,lo=some o/\a.eval o=.int kk m) (D4:(hi=none/\n=len)\/∃ o kk,hi=some o/\a.eval o=.int kk n) (h:0<=m/\m<=n/\n<=(len:Int)) (hc:len<=cap):
  (Instr.sliceAt T (.slice base len cap) (lo.map a.eval) (hi.map a.eval) none).run P w=.ok (.slice (if cap=m.toNat then base else base.map (·.add (m.toNat*s))) (n.toNat-m.toNat) (cap-m.toNat)) w:=by
 have hb:=MT (P:=P) w (sl:=true) jF D4 h hc
 simp[Instr.sliceAt,Instr.slice,run_underlying hT,hb,kd w hs]
theorem Y1{P:Program}(hs:df W0 okIn B us tm ob nt E a){nn:Nat}{T el:TypeId}{e:Sh}{off len:Nat}{v:Value}{lo hi:Option Operand}{m n:Int}(hT:P.underlying T=some (.slice el))(cq:iA P el=some e.size)
  (hl:np ob nn=true) (hx:VR E (.rsl nn e off len) v) (q1:(lo=none/\m=0)\/∃ o kk,lo=some o/\a.eval o=.int kk m) (q2:(hi=none/\n=len)\/∃ o kk,hi=some o/\a.eval o=.int kk n) (q3:0<=m/\m<=n/\n<=(len:Int)):
  ∃ w,(Instr.sliceAt T v (lo.map a.eval) (hi.map a.eval) none).run P E.w=.ok w E.w/\VR E (.rsl nn e (off+m.toNat) (n.toNat-m.toNat)) w:=by
 simp only[VR] at hx
 obtain⟨L,hL,lU⟩:=nw hs hl
 obtain⟨base,rfl,k1,k2,k3⟩:=hx.2 L hL
 refine⟨_,run_sliceAt_slice E.w hT cq q1 q2 q3 (by omega),?_⟩
 simp only[VR,eL,true_and]
 intro L' c9
 obtain rfl:L=L':=Option.some.inj (hL.symm.trans c9)
 refine⟨_,by rw[Nat.sub_sub],by omega,fun h0=>?_,fun hlt=>?_⟩
 ·have e1:m.toNat=0:=by omega
  have e2:off=0:=by omega
  rw[k2 e2,e1]
  split
  ·rfl
  ·cases L.base<;>simp[Addr.add]
 ·rw[if_neg (by omega),k3 (by omega)]
  cases L.base with
  | none=>rfl
  | some ad=>
   simp only[Option.map_some]
   congr 1
   have hA:∀ (x y:Nat),(ad.add x).add y=ad.add (x+y):=by
    intro x y
    unfold Addr.add
    by_cases wG:x=0
    ·subst wG;simp
    ·by_cases Y2:y=0
     ·subst Y2;simp[wG]
     ·simp[wG,Y2,Nat.add_assoc]
   rw[hA,Nat.add_mul]
theorem znc{n:Nat}{e e':Sh}{xs:List e'.T}{v:Value}(h:eO E n (.rows e' xs)\/eO E n (.gR e' xs))(hx:VR E (.own n e) v):VR E (.rsl n e 0 xs.length) v:=by
 obtain⟨L,h1,h2,h3,_⟩:=AD h hx
 simp only[VR] at hx ⊢
 refine⟨hx.1,fun L' c9=>?_⟩
 obtain rfl:L=L':=Option.some.inj (h1.symm.trans c9)
 refine⟨L.base,h2,by omega,fun _=>rfl,fun _=>?_⟩
 rw[Nat.zero_mul]
 cases L.base<;>simp[Addr.add]
theorem znd{P:Program}(hs:df W0 okIn B us tm ob nt E a){nm:Nat}(cO:¬ us nm){T:TypeId}{x r:AV}{v:Value}{lo hi mx:Option Operand}{q:List Prop}{u:cx}(hl:pT ob x=true)(h:Du P T tm ob x lo hi mx nm=some (q,r,u))(hq:∀ p∈q,p)
  (hx:VR E x v) (hn:x.nm us):∃ E' w,(Instr.sliceAt T v (lo.map a.eval) (hi.map a.eval) (mx.map a.eval)).run P E.w=.ok w E'.w/\cK W0 okIn B us (eC us nm) E E' u/\VR E' r w/\r.nm (eC us nm):=by
 unfold Du at h
 split at h
 ·rename_i m
  split at h
  case h_2=>simp at h
  rename_i hh
  split at h
  ·rename_i el hT
   split at h
   ·rename_i e xs sz cq
    obtain⟨p1,m1,h,h1⟩:=lX hs h
    obtain⟨p2,m2,h,h2⟩:=lX hs h
    obtain⟨p3,m3,h,h3⟩:=lX hs h
    simp only[Option.some.injEq,Prod.mk.injEq] at h
    obtain⟨rfl,rfl,rfl⟩:=h
    have q1:=h1 fun p hp=>hq p (da.2 (.inl hp))
    have q2:=h2 fun p hp=>hq p (da.2 (.inr (da.2 (.inl hp))))
    have q3:=h3 fun p hp=>hq p (da.2 (.inr (da.2 (.inr (da.2 (.inl hp))))))
    obtain⟨rfl,rfl,rfl⟩:m1=0/\m2=0/\m3=0:=hq _ (da.2 (.inr (da.2 (.inr (da.2 (.inr (List.Mem.head _)))))))
    simp only[VR,aN] at hx
    obtain⟨base,cap,hv,hc,_⟩:=hx
    simp only[List.cons.injEq,and_true] at hv
    subst hv
    simp only[reduceCtorEq,false_and,Option.some.injEq,false_or] at q2 q3
    obtain⟨o2,k2,rfl,e2⟩:=q2
    obtain⟨o3,k3,rfl,e3⟩:=q3
    have b3:∀ (y:Nat) (code:BoundsCode) (k:IntKind),(Instr.sliceBound (.int k 0) y code).run P E.w=.ok 0 E.w:=fun y code k=>run_sliceBound (P:=P) E.w code (by omega)
    have hb:(Instr.sliceBounds true (List.length xs) cap (lo.map a.eval) ((some hh).map a.eval) ((some m).map a.eval)).run P E.w=.ok (0,0,0) E.w:=by
     rcases q1 with⟨rfl,_⟩ | ⟨o1,k1,rfl,e1⟩
     ·simp[Instr.sliceBounds,e2,e3,b3]
     ·simp[Instr.sliceBounds,e1,e2,e3,b3]
    refine⟨⟨E.w,gT E.mu nm (some ⟨base,0,false,0⟩),E.ok⟩,.slice base 0 0,?_,?_,?_,oY⟩
    ·simp only[Instr.sliceAt,Sem.run_bind,run_underlying hT,Result.andThen_ok,Instr.slice,hb,kd E.w cq,Sem.run_pure]
     simp
    ·refine cK.new hs.env hs.lo cO (fun _ _=>rfl) (Nat.le_refl _) rfl rfl rfl (fun h=>by simp at h) ?_ (by simp[AO.nm])
     exact⟨_,jV _ _ _,rfl,.inl ⟨rfl,rfl,rfl⟩⟩
    ·simp only[VR,eL,true_and]
     intro L hL
     simp only[jV,Option.some.injEq] at hL
     subst hL
     rfl
   ·simp at h
  ·simp at h
 ·split at h
  ·rename_i hT
   split at h
   ·rename_i l
    obtain⟨p1,m,h,h1⟩:=lX hs h
    obtain⟨p2,n,h,h2⟩:=lX hs h
    simp only[Option.some.injEq,Prod.mk.injEq] at h
    obtain⟨rfl,rfl,rfl⟩:=h
    have q1:=h1 fun p hp=>hq p (da.2 (.inl hp))
    have q2:=h2 fun p hp=>hq p (da.2 (.inr (da.2 (.inl hp))))
    have q3:0<=m/\m<=n/\n<=(l.length:Int):=hq _ (da.2 (.inr (da.2 (.inr (List.Mem.head _)))))
    simp only[VR] at hx
    subst hx
    have cq:(⟨l.toArray⟩:ByteArray).size=l.length:=by simp[ByteArray.size]
    have hb:=MT (P:=P) E.w (sl:=false) (len:=(⟨l.toArray⟩:ByteArray).size) (cap:=(⟨l.toArray⟩:ByteArray).size) q1 (by rw[cq];exact q2) (by rw[cq];exact q3) (Nat.le_refl _)
    refine⟨E,.string ((⟨l.toArray⟩:ByteArray).extract m.toNat n.toNat),?_,cK.pX hs.env,?_,by simp[AV.nm]⟩
    ·simp[Instr.sliceAt,Instr.slice,run_underlying hT,hb]
    ·simp only[VR]
     congr 1
     apply ByteArray.ext
     simp[cE,List.extract_eq_take_drop]
   ·simp at h
  ·rename_i el hT
   split at h
   ·rename_i s cq
    split at h
    ·rename_i e xs
     split at h
     ·rename_i hb
      have hU:=beq_true hb
      subst hU
      obtain⟨p1,m,h,h1⟩:=lX hs h
      obtain⟨p2,n,h,h2⟩:=lX hs h
      simp only[Option.some.injEq,Prod.mk.injEq] at h
      obtain⟨rfl,rfl,rfl⟩:=h
      have q1:=h1 fun p hp=>hq p (da.2 (.inl hp))
      have q2:=h2 fun p hp=>hq p (da.2 (.inr (da.2 (.inl hp))))
      have q3:0<=m/\m<=n/\n<=(xs.length:Int):=hq _ (da.2 (.inr (da.2 (.inr (List.Mem.head _)))))
      simp only[VR,aN] at hx
      obtain⟨base,cap,hv,hc,vd⟩:=hx
      simp only[List.cons.injEq,and_true] at hv
      subst hv
      refine⟨E,_,run_sliceAt_slice E.w hT cq q1 q2 q3 hc,cK.pX hs.env,?_,by simp[AV.nm]⟩
      have hlen:(cE m.toNat n.toNat xs).length=n.toNat-m.toNat:=MN (by omega) (by omega)
      simp only[VR,aN]
      refine⟨_,_,by rw[hlen],by rw[hlen];omega,?_⟩
      by_cases h0:n.toNat-m.toNat=0
      ·exact .inl (by rw[hlen];exact h0)
      ·refine .inr ?_
       rcases vd with vd | ⟨b,o,rfl,cR,vd⟩
       ·omega
       ·refine⟨b,o+m.toNat*e.size,?_,cR,fun i hi=>?_⟩
        ·rw[if_neg (by omega)];simp[jc]
        ·have hle:n.toNat<=xs.length:=by omega
         rw[MO hle hi]
         obtain⟨cs,c1,c2,c3⟩:=vd (m.toNat+i) (by rw[hlen] at hi;omega)
         refine⟨cs,c1,?_,c3⟩
         rw[Nat.add_mul] at c2
         rw[Nat.add_assoc]
         exact c2
     ·simp at h
    ·obtain⟨p1,m,h,h1⟩:=lX hs h
     obtain⟨p2,n,h,h2⟩:=lX hs h
     simp only[Option.some.injEq,Prod.mk.injEq] at h
     obtain⟨rfl,rfl,rfl⟩:=h
     have q1:=h1 fun p hp=>hq p (da.2 (.inl hp))
     have q2:=h2 fun p hp=>hq p (da.2 (.inr (da.2 (.inl hp))))
     obtain⟨rfl,rfl⟩:m=0/\n=0:=hq _ (da.2 (.inr (da.2 (.inr (List.Mem.head _)))))
     simp only[VR] at hx
     subst hx
     exact⟨E,_,run_sliceAt_slice E.w hT cq q1 q2 ⟨by omega,by omega,by simp⟩ (Nat.le_refl _),cK.pX hs.env,by simp[VR],by simp[AV.nm]⟩
    ·rename_i nn e off len
     split at h
     ·rename_i hb
      have hU:=beq_true hb
      subst hU
      obtain⟨p1,m,h,h1⟩:=lX hs h
      obtain⟨p2,n,h,h2⟩:=lX hs h
      simp only[Option.some.injEq,Prod.mk.injEq] at h
      obtain⟨rfl,rfl,rfl⟩:=h
      have q1:=h1 fun p hp=>hq p (da.2 (.inl hp))
      have q2:=h2 fun p hp=>hq p (da.2 (.inr (da.2 (.inl hp))))
      have q3:0<=m/\m<=n/\n<=(len:Int):=hq _ (da.2 (.inr (da.2 (.inr (List.Mem.head _)))))
      obtain⟨w,w1,w2⟩:=Y1 hs hT cq hl hx q1 q2 q3
      exact⟨E,w,w1,cK.pX hs.env,VR.mono (cK.refl hs.env |>.Hf hs.env) _ _ hn w2,.inl hn⟩
     ·simp at h
    ·rename_i nn e
     split at h
     ·rename_i hb
      have hU:=beq_true hb
      subst hU
      have fin:∀ {e':Sh} {xs:List e'.T},(eO E nn (.rows e' xs)\/eO E nn (.gR e' xs))->(gn tm lo 0 fun p a=>gn tm hi xs.length fun q b=>
        some (bQ p (bQ q [0<=a/\a<=b/\b<=(xs.length:Int)]),AV.rsl nn e a.toNat (b.toNat-a.toNat),([]:cx)))=some (q,r,u)->
        ∃ E' w,(Instr.sliceAt T v (lo.map a.eval) (hi.map a.eval) none).run P E.w=.ok w E'.w/\cK W0 okIn B us (eC us nm) E E' u/\VR E' r w/\r.nm (eC us nm):=by
       intro e' xs ho h
       obtain⟨p1,m,h,h1⟩:=lX hs h
       obtain⟨p2,n,h,h2⟩:=lX hs h
       simp only[Option.some.injEq,Prod.mk.injEq] at h
       obtain⟨rfl,rfl,rfl⟩:=h
       have q1:=h1 fun p hp=>hq p (da.2 (.inl hp))
       have q2:=h2 fun p hp=>hq p (da.2 (.inr (da.2 (.inl hp))))
       have q3:0<=m/\m<=n/\n<=(xs.length:Int):=hq _ (da.2 (.inr (da.2 (.inr (List.Mem.head _)))))
       obtain⟨w,w1,w2⟩:=Y1 hs hT cq hl (znc ho hx) q1 q2 q3
       rw[Nat.zero_add] at w2
       exact⟨E,w,w1,cK.pX hs.env,w2,.inl hn⟩
      split at h
      ·rename_i b8;exact fin (.inl (hs.obj _ _ b8).1) h
      ·rename_i b8;exact fin (.inr (hs.obj _ _ b8).1) h
      ·simp at h
     ·simp at h
    ·rename_i nn off len
     obtain⟨p1,m,h,h1⟩:=lX hs h
     obtain⟨p2,n,h,h2⟩:=lX hs h
     simp only[Option.some.injEq,Prod.mk.injEq] at h
     obtain⟨rfl,rfl,rfl⟩:=h
     have q1:=h1 fun p hp=>hq p (da.2 (.inl hp))
     have q2:=h2 fun p hp=>hq p (da.2 (.inr (da.2 (.inl hp))))
     have q3:0<=m/\m<=n/\n<=(len:Int):=hq _ (da.2 (.inr (da.2 (.inr (List.Mem.head _)))))
     simp only[VR] at hx
     obtain⟨L,hL,lU⟩:=nw hs hl
     obtain⟨b,o,cap,k1,rfl,k2,k3⟩:=hx.2 L hL
     refine⟨E,_,run_sliceAt_slice E.w hT cq q1 q2 q3 k2,cK.pX hs.env,?_,.inl hn⟩
     simp only[VR,eL,true_and]
     intro L' c9
     obtain rfl:L=L':=Option.some.inj (hL.symm.trans c9)
     by_cases hc:cap=m.toNat
     ·rw[if_pos hc]
      exact⟨b,o,_,k1,rfl,by omega,fun h0=>by omega⟩
     ·rw[if_neg hc]
      refine⟨b,o+m.toNat*s,_,k1,by rw[Option.map_some,jc],by omega,fun h0=>by rw[k3 (by omega)]⟩
    ·simp at h
   ·simp at h
  ·rename_i mm el hT
   split at h
   ·rename_i s cq
    split at h
    ·rename_i nn off
     obtain⟨p1,m,h,h1⟩:=lX hs h
     obtain⟨p2,n,h,h2⟩:=lX hs h
     simp only[Option.some.injEq,Prod.mk.injEq] at h
     obtain⟨rfl,rfl,rfl⟩:=h
     have q1:=h1 fun p hp=>hq p (da.2 (.inl hp))
     have q2:=h2 fun p hp=>hq p (da.2 (.inr (da.2 (.inl hp))))
     have q3:0<=m/\m<=n/\n<=(mm:Int):=hq _ (da.2 (.inr (da.2 (.inr (List.Mem.head _)))))
     simp only[VR] at hx
     obtain⟨L,hL,lU⟩:=nw hs hl
     obtain⟨b,k1,rfl⟩:=hx.2 L hL
     have hb:=MT (P:=P) E.w (sl:=false) (len:=mm) (cap:=mm) q1 q2 q3 (Nat.le_refl _)
     refine⟨E,.slice (some (if mm=m.toNat then ⟨b,off,none⟩ else (⟨b,off,none⟩:Addr).add (m.toNat*s))) (n.toNat-m.toNat) (mm-m.toNat),?_,cK.pX hs.env,?_,.inl hn⟩
     ·simp[Instr.sliceAt,run_underlying hT,Instr.sureAddr,hb,kd E.w cq]
     ·simp only[VR,eL,true_and]
      intro L' c9
      obtain rfl:L=L':=Option.some.inj (hL.symm.trans c9)
      by_cases hc:mm=m.toNat
      ·rw[if_pos hc]
       exact⟨b,off,_,k1,rfl,by omega,fun h0=>by omega⟩
      ·rw[if_neg hc]
       refine⟨b,off+m.toNat*s,_,k1,by rw[jc],by omega,fun h0=>rfl⟩
    ·rename_i nn e i off
     split at h
     case h_2=>simp at h
     rename_i se hU
     have DY:s=se.size:=Option.some.inj (cq.symm.trans (yh hU).1)
     subst DY
     obtain⟨p1,m,h,h1⟩:=lX hs h
     obtain⟨p2,n,h,h2⟩:=lX hs h
     simp only[Option.some.injEq,Prod.mk.injEq] at h
     obtain⟨rfl,rfl,rfl⟩:=h
     have q1:=h1 fun p hp=>hq p (da.2 (.inl hp))
     have q2:=h2 fun p hp=>hq p (da.2 (.inr (da.2 (.inl hp))))
     have q3:0<=m/\m<=n/\n<=(mm:Int):=hq _ (da.2 (.inr (da.2 (.inr (List.Mem.head _)))))
     simp only[VR] at hx
     obtain⟨L,hL,lU⟩:=nw hs hl
     obtain⟨b,k1,rfl⟩:=hx.2 L hL
     have hb:=MT (P:=P) E.w (sl:=false) (len:=mm) (cap:=mm) q1 q2 q3 (Nat.le_refl _)
     refine⟨E,.slice (some (if mm=m.toNat then ⟨b,i*e.size+off,none⟩ else (⟨b,i*e.size+off,none⟩:Addr).add (m.toNat*se.size))) (n.toNat-m.toNat) (mm-m.toNat),?_,cK.pX hs.env,?_,.inl hn⟩
     ·simp[Instr.sliceAt,run_underlying hT,Instr.sureAddr,hb,kd E.w cq]
     ·simp only[VR,eL,true_and]
      intro L' c9
      obtain rfl:L=L':=Option.some.inj (hL.symm.trans c9)
      by_cases hc:mm=m.toNat
      ·rw[if_pos hc]
       exact⟨b,_,k1,rfl,by omega,fun h0=>by omega⟩
      ·rw[if_neg hc]
       refine⟨b,_,k1,by rw[jc],by omega,fun h0=>rfl⟩
    ·simp at h
   ·simp at h
  ·simp at h
end
section
variable {W0:WX} {okIn B us:Nat->Prop} {tm:Nat->Option AV} {ob:Nat->Option AO} {nt:Nat} {E:Env} {a:Act}
theorem Y3{n:Int}(h0:-9223372036854775808<=n)(h:n<9223372036854775808):IntKind.i64.wrap n=n:=by
 simp only[IntKind.wrap,IntKind.bits,IntKind.signed]
 simp only[Bool.true_and]
 split<;>rename_i hh<;>simp at hh<;>omega
theorem zne{z:Array Value}{s N i:Nat}(hz:z.size=s)(h:(i+1)*s<=N):((((Array.range N).map (z[· % z.size]!)).toList.drop (i*s)).take s)=z.toList:=by
 apply List.ext_getElem?
 intro j
 simp only[List.getElem?_take,List.getElem?_drop]
 rw[Nat.add_mul] at h
 by_cases hj:j<s
 ·rw[if_pos hj]
  have hlt:i*s+j<N:=by omega
  have znf:(i*s+j) % s=j:=by rw[Nat.add_comm,Nat.mul_comm,Nat.add_mul_mod_self_left,Nat.mod_eq_of_lt hj]
  simp[hlt,hz,znf,hj]
 ·rw[if_neg hj]
  rw[List.getElem?_eq_none (by simp;omega)]
theorem zng{P:Program}(hs:df W0 okIn B us tm ob nt E a){nm:Nat}(cO:¬ us nm){T el:TypeId}{e:Sh}{z:List AV}{t:e.T}{k k':IntKind}{n m:Int}(hT:P.underlying T=some (.slice el))(he:oU P el=some e)(hz:lR P el=some z)
  (hd:wa e z=some t) (h:0<=n/\n<=m/\m<9223372036854775808/\roomy P el m.toNat):
  ∃ E' y,(Instr.makeSlice T (.int k n) (.int k' m)).run P E.w=.ok y E'.w/\cK W0 okIn B us (eC us nm) E E' [(nm,some (.rows e (List.replicate n.toNat t)))]/\VR E' (.own nm e) y:=by
 obtain⟨h1,h2,h3,h4⟩:=h
 obtain⟨zv,u6,rfl⟩:=Ht hz E.w
 have hl:=DT hd (Au E zv.cells.toList)
 have iu:zv.cells.size=e.size:=by have:=aN.length e _ _ hl;simpa using this
 obtain⟨i,hi,zF6⟩:=MA (yh he).1
 obtain⟨r1,r2⟩:=Rr hi h4
 obtain⟨zero,hzero⟩:∃ zero:Array Value,zero=if m.toNat*e.size=0 then #[] else zv.cells:=⟨_,rfl⟩
 have hm:(m.toNat:Int)=m:=by omega
 have pd:¬ ((i.bytes:Int)*m>281474976710656):=by
  rw[<-hm]
  have:((i.bytes:Int)*(m.toNat:Int))=((m.toNat*i.bytes:Nat):Int):=by rw[Int.natCast_mul,Int.mul_comm]
  rw[this];omega
 have hwm:IntKind.i64.wrap m=m:=Y3 (by omega) h3
 have HG:IntKind.i64.wrap n=n:=Y3 (by omega) (by omega)
 obtain⟨E',hE,iE,wC⟩:=MF hs.env hs.lo cO (e:=e) (xs:=List.replicate n.toNat t) (T:=el) (fr:=(0,0)) (cap:=m.toNat) (AE E.w (.cells ((Array.range (m.toNat*e.size)).map (zero[· % zero.size]!)) el)) (AF _ _) (by simp) rfl rfl rfl (fun i _=>by omega) (by simp) (by simp;omega)
  (fun j hj=>by
   have ly:j<n.toNat:=by simpa using hj
   have hmul:=Nat.mul_le_mul_right e.size (show j+1<=m.toNat by omega)
   simp only[List.getElem_replicate]
   by_cases h0:e.size=0
   ·have Y4:zv.cells.toList=[]:=by apply List.eq_nil_of_length_eq_zero;simp[iu,h0]
    rw[Y4] at hl
    simpa [h0] using hl
   ·have eW:m.toNat*e.size≠0:=by
     have:0<(j+1)*e.size:=Nat.mul_pos (by omega) (by omega)
     omega
    rw[hzero,if_neg eW,zne iu hmul]
    exact hl)
 refine⟨E',_,?_,iE,by simpa using wC⟩
 rw[hE]
 have HH:(typeInfo el).run P E.w=.ok i E.w:=by simp[typeInfo,hi]
 have cq:=kd E.w (yh he).1
 simp only[Instr.makeSlice,Sem.run_bind,run_underlying hT,Result.andThen_ok,asInt,asIntOf,Sem.run_pure,HH,hwm,HG]
 have hc:(((decide (m<0)||decide ((i.bytes:Int)*m>2 ^ 48))||decide (n<0))||decide (n>m))=false:=by
  have e1:decide (m<0)=false:=decide_eq_false (by omega)
  have e2:decide ((i.bytes:Int)*m>2 ^ 48)=false:=decide_eq_false (by simpa using pd)
  have e3:decide (n<0)=false:=decide_eq_false (by omega)
  have e4:decide (n>m)=false:=decide_eq_false (by omega)
  rw[e1,e2,e3,e4];rfl
 rw[if_neg (by rw[hc];simp)]
 simp only[Sem.run_bind,run_askRoom,Result.andThen_ok,cq]
 by_cases h0:m.toNat*e.size=0
 ·rw[if_pos h0] at hzero
  subst hzero
  rw[if_pos h0]
  simp only[Sem.run_bind,Sem.run_pure,Result.andThen_ok,newRow,run_newObj,List.length_replicate]
 ·rw[if_neg h0] at hzero
  subst hzero
  rw[if_neg h0]
  simp only[Sem.run_bind,u6,Sem.run_pure,Result.andThen_ok,newRow,run_newObj,List.length_replicate]
theorem Y5{t want:Bool}{v v':AV}{q:List Prop}{x:Value}(h:wm.strip t want v=(q,v'))(hq:∀ p∈q,p)(ht:t=want)(hx:VR E v x):VR E v' x:=by
 unfold wm.strip at h
 split at h
 ·simp only[Prod.mk.injEq] at h
  obtain⟨rfl,rfl⟩:=h
  simp only[VR] at hx
  exact hx.1 (hq _ (List.Mem.head _) ht)
 ·simp only[Prod.mk.injEq] at h
  obtain⟨rfl,rfl⟩:=h
  exact hx
theorem zni{ca cb:Operand}{t:Bool}{x y r:AV}{u v:Value}{q:List Prop}(h:wm ca cb t x y=some (q,r))(hq:∀ p∈q,p)(hx:VR E x u)(hy:VR E y v)
  (hca:∀ c,ca=.const c->x=pR c) (lV:∀ c,cb=.const c->y=pR c):
  VR E r (if t then u else v)/\∀ p,r.nm p:=by
 unfold wm at h
 generalize Ru:wm.strip t true x=sa at h
 generalize Rv:wm.strip t false y=sb at h
 obtain⟨pa,x'⟩:=sa
 obtain⟨pb,y'⟩:=sb
 simp only at h
 split at h
 ·rename_i x0 y0
  have ex:(∀ p∈pa,p)->t=true->u=.bool x0:=fun hp ht=>by have:=Y5 Ru hp ht hx;simpa only[VR] using this
  have ey:(∀ p∈pb,p)->t=false->v=.bool y0:=fun hp ht=>by have:=Y5 Rv hp ht hy;simpa only[VR] using this
  
  have znm:∀ c,wm.strip t true (pR c)=([],pR c):=by
   intro c;unfold pR;split
   ·rfl
   ·unfold vZ;split<;>rfl
  have znn:∀ c,wm.strip t false (pR c)=([],pR c):=by
   intro c;unfold pR;split
   ·rfl
   ·unfold vZ;split<;>rfl
  split at h
  ·rename_i c
   have Y6:pa=[]:=by
    have:=hca c rfl
    rw[this,znm] at Ru
    exact (Prod.mk.inj Ru).1.symm
   split at h
   ·simp only[Option.some.injEq,Prod.mk.injEq] at h
    obtain⟨rfl,rfl⟩:=h
    refine⟨?_,by simp[AV.nm]⟩
    cases t
    ·simp only[Bool.false_eq_true,if_false,Bool.false_or,VR];exact ey hq rfl
    ·simp only[if_true,Bool.true_or,VR];exact ex (by simp[Y6]) rfl
   ·simp only[Option.some.injEq,Prod.mk.injEq] at h
    obtain⟨rfl,rfl⟩:=h
    refine⟨?_,by simp[AV.nm]⟩
    cases t
    ·simp only[Bool.false_eq_true,if_false,Bool.not_false,Bool.true_and,VR];exact ey hq rfl
    ·simp only[if_true,Bool.not_true,Bool.false_and,VR];exact ex (by simp[Y6]) rfl
  ·rename_i c eW
   have Y7:pb=[]:=by
    have:=lV c rfl
    rw[this,znn] at Rv
    exact (Prod.mk.inj Rv).1.symm
   split at h
   ·simp only[Option.some.injEq,Prod.mk.injEq] at h
    obtain⟨rfl,rfl⟩:=h
    refine⟨?_,by simp[AV.nm]⟩
    cases t
    ·simp only[Bool.false_eq_true,if_false,Bool.false_and,VR];exact ey (by simp[Y7]) rfl
    ·simp only[if_true,Bool.true_and,VR];exact ex hq rfl
   ·simp only[Option.some.injEq,Prod.mk.injEq] at h
    obtain⟨rfl,rfl⟩:=h
    refine⟨?_,by simp[AV.nm]⟩
    cases t
    ·simp only[Bool.false_eq_true,if_false,Bool.not_false,Bool.true_or,VR];exact ey (by simp[Y7]) rfl
    ·simp only[if_true,Bool.not_true,Bool.false_or,VR];exact ex hq rfl
  ·simp only[Option.some.injEq,Prod.mk.injEq] at h
   obtain⟨rfl,rfl⟩:=h
   refine⟨?_,by simp[AV.nm]⟩
   cases t
   ·simp only[Bool.false_eq_true,if_false,cond_false,VR];exact ey (fun p hp=>hq p (da.2 (.inr hp))) rfl
   ·simp only[if_true,cond_true,VR];exact ex (fun p hp=>hq p (da.2 (.inl hp))) rfl
 ·simp at h
theorem Y8{P:Program}(w:World):∀ {l:List AV} {v r:AV} {u:Value} {vs:List Value},oV true v l=some r->VR E v u->aR E l vs->
  ∃ z,(vs.foldlM Builtin.max2 u:Sem Value).run P w=.ok z w/\VR E r z/\((∀ p,v.nm p)->∀ p,r.nm p)
 | [],v,r,u,vs,h,hu,hv=>by
  simp only[aR] at hv
  subst hv
  have:some v=some r:=by cases v<;>simpa [oV] using h
  simp only[Option.some.injEq] at this
  subst this
  exact⟨u,by simp,hu,fun hp=>hp⟩
 | x::l,v,r,u,vs,h,hu,hv=>by
  simp only[aR] at hv
  obtain⟨y,ys,rfl,hy,MU⟩:=hv
  cases v<;>cases x<;>simp only[oV,reduceCtorEq] at h
  simp only[VR] at hu hy
  subst hu;subst hy
  obtain⟨z,h1,h2,h3⟩:=Y8 w h VR.int MU
  refine⟨z,?_,h2,fun _=>h3 (by simp[AV.nm])⟩
  simp only[List.foldlM_cons,Sem.run_bind,Builtin.max2,Sem.run_pure,Result.andThen_ok]
  exact h1
theorem Y9{P:Program}(w:World):∀ {l:List AV} {v r:AV} {u:Value} {vs:List Value},oV false v l=some r->VR E v u->aR E l vs->
  ∃ z,(vs.foldlM Builtin.min2 u:Sem Value).run P w=.ok z w/\VR E r z/\((∀ p,v.nm p)->∀ p,r.nm p)
 | [],v,r,u,vs,h,hu,hv=>by
  simp only[aR] at hv
  subst hv
  have:some v=some r:=by cases v<;>simpa [oV] using h
  simp only[Option.some.injEq] at this
  subst this
  exact⟨u,by simp,hu,fun hp=>hp⟩
 | x::l,v,r,u,vs,h,hu,hv=>by
  simp only[aR] at hv
  obtain⟨y,ys,rfl,hy,MU⟩:=hv
  cases v<;>cases x<;>simp only[oV,reduceCtorEq] at h
  simp only[VR] at hu hy
  subst hu;subst hy
  obtain⟨z,h1,h2,h3⟩:=Y9 w h VR.int MU
  refine⟨z,?_,h2,fun _=>h3 (by simp[AV.nm])⟩
  simp only[List.foldlM_cons,Sem.run_bind,Builtin.min2,Sem.run_pure,Result.andThen_ok]
  exact h1
theorem Za{w:World}{ok:Nat->Prop}{e:Sh}{xs:List e.T}{b o:Nat}(hx:∀ i (h:i<xs.length),∃ cs,cs.length=e.size/\Row w b (o+i*e.size) cs/\aN w ok e (xs[i]'h) cs):
  ∀ (n i:Nat) (s:Sh) (t:s.T),x6 e xs n i s=some t->i+n<=xs.length->∃ cs,cs.length=s.size/\s.size=n*e.size/\Row w b (o+i*e.size) cs/\aN w ok s t cs
 | 0,i,s,t,h,_=>by simp[x6] at h
 | 1,i,s,t,h,hle=>by
  simp only[x6] at h
  split at h
  ·rename_i he
   subst he
   simp only[Option.some.injEq] at h
   subst h
   have hi:i<xs.length:=by omega
   obtain⟨cs,h1,h2,h3⟩:=hx i hi
   rw[getD_eq hi]
   exact⟨cs,h1,by omega,h2,h3⟩
  ·simp at h
 | n+2,i,s,t,h,hle=>by
  cases s with
  | pair p q=>
   simp only[x6] at h
   split at h
   ·rename_i he
    subst he
    split at h
    ·rename_i r hr
     simp only[Option.some.injEq] at h
     subst h
     have hi:i<xs.length:=by omega
     obtain⟨c1,h1,h2,h3⟩:=hx i hi
     obtain⟨c2,g1,g2,g3,g4⟩:=Za hx (n+1) (i+1) q r hr (by omega)
     refine⟨c1++c2,by simp[Sh.size,h1,g1],by simp[Sh.size,g2,Nat.add_mul];omega,h2.append ?_,?_⟩
     ·rw[h1]
      rwa [show o+(i+1)*e.size=o+i*e.size+e.size by rw[Nat.add_mul];omega] at g3
     ·simp only[aN]
      exact⟨c1,c2,rfl,by rw[getD_eq hi];exact h3,g4⟩
    ·simp at h
   ·simp at h
  | _=>simp[x6] at h
end
section
variable {W0:WX} {okIn B us:Nat->Prop} {tm:Nat->Option AV} {ob:Nat->Option AO} {nt:Nat} {E:Env} {a:Act}
def lY(ob:Nat->Option AO)(u:cx):Prop:=∀ m r,(m,r)∈u->∃ e xs,ob m=some (.rows e xs)/\r=some (.gR e xs)
theorem Zb{α:Type}{l:List (Nat×α)}{n:Nat}{x:α}(h:aQ l n=some x):(n,x)∈l:=by
 induction l with
 | nil=>simp[aQ] at h
 | cons y r ih=>
  obtain⟨m,z⟩:=y
  simp only[aQ] at h
  cases hb:Nat.beq n m with
  | true=>
   rw[hb] at h
   simp only[Option.some.injEq] at h
   have:=beq_true hb
   subst this;subst h
   exact List.mem_cons_self ..
  | false=>rw[hb] at h;exact List.mem_cons_of_mem _ (ih h)
theorem MV{α:Type}(u w:List (Nat×α))(n:Nat):aQ (bQ u w) n=match aQ u n with | some r=>some r | none=>aQ w n:=by
 induction u with
 | nil=>rfl
 | cons x r ih=>
  obtain⟨m,y⟩:=x
  simp only[bQ,aQ]
  cases Nat.beq n m with
  | true=>rfl
  | false=>exact ih
theorem lY.app{u w:cx}(hu:lY ob u)(hw:lY ob w):lY ob (bQ u w):=fun m r h=>by
 rw[iC] at h
 rcases List.mem_append.1 h with h | h
 ·exact hu m r h
 ·exact hw m r h
theorem Zc(v:AV):lY ob (wo ob v):=by
 intro m r h
 unfold wo at h
 split at h
 ·split at h
  ·rename_i e xs b8
   split at h
   ·simp only[List.mem_singleton,Prod.mk.injEq] at h
    obtain⟨rfl,rfl⟩:=h
    exact⟨e,xs,b8,rfl⟩
   ·simp at h
  ·simp at h
 ·simp at h
theorem Zd:∀ l:List AV,lY ob (uV ob l)
 | []=>fun m r h=>by simp[uV] at h
 | v::r=>(Zc v).app (Zd r)
theorem Ze(v:AV):lY ob (sf ob v):=by
 unfold sf
 split
 ·exact Zd _
 ·exact Zc _
theorem Zf:∀ l:List (Nat×AV),lY ob (uX ob l)
 | []=>fun m r h=>by simp[uX] at h
 | (i,v)::r=>(Ze v).app (Zf r)
def iT(E:Env)(u:cx):Env:=⟨E.w,fun n=>match aQ u n with | some _=>(E.mu n).map fun L=>{ L with own:=false } | none=>E.mu n,fun b=>E.ok b\/∃ n,(aQ u n).isSome=true/\cV E n b⟩
theorem D5{u:cx}{n:Nat}{L':Loc}(h:(iT E u).mu n=some L'):∃ L,E.mu n=some L/\L.base=L'.base/\L.cap=L'.cap/\L.len=L'.len/\(L'.own=true->L.own=true/\aQ u n=none):=by
 simp only[iT] at h
 split at h
 ·cases hm:E.mu n with
  | none=>rw[hm] at h;simp at h
  | some L=>
   rw[hm] at h
   simp only[Option.map_some,Option.some.injEq] at h
   subst h
   exact⟨L,rfl,rfl,rfl,rfl,fun h=>by simp at h⟩
 ·rename_i hn
  exact⟨L',h,rfl,rfl,rfl,fun h=>⟨h,hn⟩⟩
theorem AQ{u:cx}{n b:Nat}(h:cV (iT E u) n b):cV E n b/\aQ u n=none:=by
 obtain⟨L',h1,h2,h3⟩:=h
 obtain⟨L,k1,k2,_,_,k5⟩:=D5 h1
 obtain⟨k6,k7⟩:=k5 h2
 exact⟨⟨L,k1,k6,k2.trans h3⟩,k7⟩
theorem Zg(hs:df W0 okIn B us tm ob nt E a){u:cx}(hu:lY ob u){n:Nat}{e:Sh}{xs:List e.T}(h:aQ u n=some (some (.gR e xs))):eO (iT E u) n (.gR e xs):=by
 obtain⟨e',Zh,b8,hr⟩:=hu _ _ (Zb h)
 simp only[Option.some.injEq,AO.gR.injEq] at hr
 obtain⟨rfl,hr⟩:=hr
 obtain rfl:=eq_of_heq hr
 obtain⟨L,k1,kl,k2⟩:=(hs.obj n _ b8).1
 refine⟨{ L with own:=false },by simp[iT,h,k1],kl,rfl,?_,?_⟩
 ·rcases k2 with⟨g1,_,_⟩ | ⟨b,cs,T,fr,g1,_⟩
  ·exact .inl g1
  ·exact .inr ⟨b,g1⟩
 ·simp only[aN]
  rcases k2 with⟨g1,g2,_⟩ | ⟨b,cs,T,fr,g1,g2,g3,g4,g5,g6,g7⟩
  ·exact⟨L.base,L.cap,rfl,by omega,.inl g2⟩
  ·refine⟨L.base,L.cap,rfl,g5,.inr ⟨b,0,g1,.inr ⟨n,by simp[h],L,k1,g2,g1⟩,fun i hi=>?_⟩⟩
   have hc:(i+1)*e.size<=L.cap*e.size:=Nat.mul_le_mul_right _ (by omega)
   rw[Nat.succ_mul] at hc
   have hlr:=g7 i hi
   refine⟨_,?_,?_,aN.mono (fun _ _=>rfl) (fun b hb=>.inl hb) _ _ _ hlr⟩
   ·simp;omega
   ·intro t ht
    have MW:t<e.size:=by simp at ht;omega
    show (match E.w.heap[b]? with
     | some (.cells c _ _)=>c[0+i*e.size+t]?
     | _=>none)=_
    rw[g3]
    simp only[Nat.zero_add]
    rw[<-List.getElem?_eq_getElem ht,List.getElem?_take_of_lt MW,List.getElem?_drop,Array.getElem?_toList]
theorem MX(hs:df W0 okIn B us tm ob nt E a){u:cx}(hu:lY ob u):cK W0 okIn B us us E (iT E u) u:=by
 have HJ:∀ n r,aQ u n=some r->∃ e xs,ob n=some (.rows e xs)/\r=some (.gR e xs):=fun n r h=>hu n r (Zb h)
 refine⟨fun _ h=>h,fun n h=>by simp[iT,h],fun n _ L' h=>?_,fun n h=>?_,fun n o h=>?_,fun _ _ _=>rfl,fun b h=>.inl h,?_⟩
 ·obtain⟨L,k1,k2,k3,k4,_⟩:=D5 h
  exact⟨L,k1,k2,k3,k4⟩
 ·obtain⟨e,xs,_,h2⟩:=HJ n _ h
  simp at h2
 ·obtain⟨e,xs,h1,h2⟩:=HJ n _ h
  simp only[Option.some.injEq] at h2
  subst h2
  exact⟨Zg hs hu h,by simp[AO.nm],(hs.obj n _ h1).2.2⟩
 ·have he:=hs.env
  refine⟨fun n m b h1 h2=>he.inj n m b (AQ h1).1 (AQ h2).1,fun n b h=>?_,fun b h=>?_,fun b h=>.inl (he.sr b h),he.fr,he.sz,he.new,he.os,he.tape,he.output,fun n L h hn=>?_⟩
  ·obtain⟨k1,k2⟩:=AQ h
   have:=he.own n b k1
   refine⟨this.1,this.2.1,fun hb=>?_⟩
   rcases hb with hb | ⟨m,hm,hb⟩
   ·exact this.2.2 hb
   ·have:=he.inj n m b k1 hb
    subst this
    rw[k2] at hm
    simp at hm
  ·rcases h with h | ⟨m,_,h⟩
   ·exact he.iR b h
   ·have:=he.own m b h
    exact⟨this.2.1,.inr this.1⟩
  ·obtain⟨L0,k1,k2,k3,k4,_⟩:=D5 h
   obtain⟨L1,g1,g2,g3,g4⟩:=he.li n L0 k1 hn
   exact⟨L1,g1,g2.trans k2,g3.trans k3,g4.trans k4⟩
theorem Zi(hs:df W0 okIn B us tm ob nt E a){u:cx}(hu:lY ob u):df W0 okIn B us tm (oW u ob) nt (iT E u) a:=by
 have:=hs.Hg (MX hs hu) (d:=none) rfl (v:=.mG) (x:=undef) (by simp[VR]) (by simp[AV.nm])
 exact this
theorem Zj(hs:df W0 okIn B us tm ob nt E a){u:cx}(hu:lY ob u){v:AV}{x:Value}(hv:VR E v x)(hn:v.nm us)(hin:∀ m r,(m,r)∈wo ob v->aQ u m=some r):
  VR (iT E u) (x7 ob v) x/\(x7 ob v).nm us:=by
 have g:=(MX hs hu).Hf hs.env
 have keep:VR (iT E u) v x/\v.nm us:=⟨VR.mono g _ _ hn hv,hn⟩
 unfold x7
 split
 ·rename_i m e
  split
  ·rename_i e' xs b8
   split
   ·rename_i AL
    subst AL
    have hl:aQ u m=some (some (.gR e' xs)):=hin m _ (by simp[wo,b8])
    obtain⟨L,h1,h2,h3,h4,h5⟩:=Zg hs hu hl
    refine⟨?_,by simp[AV.nm]⟩
    simp only[VR]
    have hk:=keep.1
    simp only[VR] at hk
    rw[hk.2 L h1,h2]
    exact h5
   ·exact keep
  ·rename_i e' xs b8
   split
   ·rename_i AL
    subst AL
    obtain⟨L,h1,h2,h3,h4,h5⟩:=(hs.obj m _ b8).1
    refine⟨?_,by simp[AV.nm]⟩
    simp only[VR] at hv ⊢
    rw[hv.2 L h1,h2]
    exact aN.mono g.hw g.ho _ _ _ h5
   ·exact keep
  ·exact keep
 ·exact keep
theorem Zk(hs:df W0 okIn B us tm ob nt E a){u:cx}(hu:lY ob u):∀ {l:List AV} {vs:List Value},aR E l vs->AV.cI us l->(∀ m r,(m,r)∈uV ob l->aQ u m=some r)->
  aR (iT E u) (uU ob l) vs/\AV.cI us (uU ob l)
 | [],vs,h,_,_=>⟨by simpa [uU,aR] using h,by simp[uU,AV.cI]⟩
 | v::l,vs,h,hn,hin=>by
  simp only[aR,AV.cI,uU] at h hn ⊢
  obtain⟨x,r,rfl,h1,h2⟩:=h
  obtain⟨a1,a2⟩:=Zj hs hu h1 hn.1 fun m r hm=>hin m r (by simp only[uV,iC];exact List.mem_append_left _ hm)
  obtain⟨b1,b2⟩:=Zk hs hu h2 hn.2 fun m r hm=>hin m r (by simp only[uV,iC];exact List.mem_append_right _ hm)
  exact⟨⟨x,r,rfl,a1,b1⟩,a2,b2⟩
theorem Zl(hs:df W0 okIn B us tm ob nt E a){u:cx}(hu:lY ob u){v:AV}{x:Value}(hv:VR E v x)(hn:v.nm us)(hin:∀ m r,(m,r)∈sf ob v->aQ u m=some r):
  VR (iT E u) (x8 ob v) x/\(x8 ob v).nm us:=by
 unfold x8
 split
 ·rename_i l
  simp only[VR,AV.nm] at hv hn ⊢
  obtain⟨vs,h1,h2⟩:=hv
  obtain⟨k1,k2⟩:=Zk hs hu h2 hn hin
  exact⟨⟨vs,h1,k1⟩,k2⟩
 ·rename_i h
  refine Zj hs hu hv hn fun m r hm=>hin m r ?_
  unfold sf
  split
  ·exact absurd rfl (h _)
  ·exact hm
theorem Zm:∀ l:List (Nat×AV),(uW ob l).length=l.length
 | []=>rfl
 | (i,v)::r=>by simp[uW,Zm r]
theorem Zn(hs:df W0 okIn B us tm ob nt E a){u:cx}(hu:lY ob u):∀ {l:List (Nat×AV)} {vs:List (Nat×Value)},kJ E l vs->ym us l->(∀ m r,(m,r)∈uX ob l->aQ u m=some r)->
  kJ (iT E u) (uW ob l) vs
 | [],vs,h,_,_=>by simpa [uW,kJ] using h
 | (i,v)::l,vs,h,hn,hin=>by
  simp only[kJ,ym,uW] at h hn ⊢
  obtain⟨x,r,rfl,h1,h2⟩:=h
  obtain⟨a1,a2⟩:=Zl hs hu h1 hn.1 fun m r hm=>hin m r (by simp only[uX,iC];exact List.mem_append_left _ hm)
  exact⟨x,r,rfl,a1,Zn hs hu h2 hn.2 fun m r hm=>hin m r (by simp only[uX,iC];exact List.mem_append_right _ hm)⟩
theorem lY.look{u:cx}(hu:lY ob u){m:Nat}{r:Option AO}(h:(m,r)∈u):aQ u m=some r:=by
 obtain⟨e,xs,h1,h2⟩:=hu m r h
 have key:∀ w:cx,lY ob w->(m,r)∈w->aQ w m=some r:=by
  intro w
  induction w with
  | nil=>intro _ h;simp at h
  | cons y l ih=>
   intro hw hm
   obtain⟨n,z⟩:=y
   simp only[aQ]
   cases hb:Nat.beq m n with
   | true=>
    have:=beq_true hb
    subst this
    obtain⟨e',Zh,k1,k2⟩:=hw m z (List.mem_cons_self ..)
    rw[h1] at k1
    simp only[Option.some.injEq,AO.rows.injEq] at k1
    obtain⟨rfl,k1⟩:=k1
    obtain rfl:=eq_of_heq k1
    rw[h2,k2]
   | false=>
    rcases List.mem_cons.1 hm with h | h
    ·simp only[Prod.mk.injEq] at h
     rw[h.1,eV] at hb
     simp at hb
    ·exact ih (fun a b hab=>hw a b (List.mem_cons_of_mem _ hab)) h
 exact key u hu h
theorem cK.gR(hs:df W0 okIn B us tm ob nt E a){u1 u2:cx}(hu:lY ob u1){nm:Nat}{E2:Env}(h2:cK W0 okIn B us (eC us nm) (iT E u1) E2 u2):cK W0 okIn B us (eC us nm) E E2 (bQ u2 u1):=by
 have h1:=MX hs hu
 have g:=h2.Hf h1.env
 refine⟨h2.sub,fun n h=>?_,fun n hn L' h=>?_,fun n h=>?_,fun n o h=>?_,fun b hb h=>?_,fun b h=>h2.ho b (.inl h),h2.env⟩
 ·rw[MV] at h
  split at h
  ·simp at h
  ·rename_i h3
   rw[h2.mu n h3,h1.mu n h]
 ·obtain⟨L,k1,k2,k3,k4⟩:=h2.My n hn L' h
  obtain⟨L0,g1,g2,g3,g4⟩:=h1.My n hn L k1
  exact⟨L0,g1,g2.trans k2,g3.trans k3,g4.trans k4⟩
 ·rw[MV] at h
  split at h
  ·rename_i r hr
   simp only[Option.some.injEq] at h
   subst h
   exact h2.QZ n hr
  ·rename_i h3
   rw[h2.mu n h3,h1.QZ n h]
 ·rw[MV] at h
  split at h
  ·rename_i r hr
   simp only[Option.some.injEq] at h
   subst h
   exact h2.obj n o hr
  ·rename_i h3
   obtain⟨k1,k2,k3⟩:=h1.obj n o h
   refine⟨eO.mono g k2 (h2.mu n h3) (fun b hb=>h2.keep b (h1.env.own n b hb).2.1 fun m hm=>?_) k1,AO.nX h2.sub _ k2,h2.sub n k3⟩
   rw[h1.env.inj m n b hm hb];exact h3
 ·have:(iT E u1).w=E.w:=rfl
  refine (h2.keep b hb fun n hn=>?_).trans rfl
  have:=h n (AQ hn).1
  rw[MV] at this
  split at this
  ·simp at this
  ·assumption
theorem znq{n:Nat}{l:List AV}:u0 us E (iT E [(n,some (.hM l))]):=⟨fun _ _=>rfl,fun b h=>.inl h,fun m _ L' h=>by
 obtain⟨L,k1,k2,k3,k4,_⟩:=D5 h
 exact⟨L,k1,k2,k3,k4⟩⟩
theorem Zo(hs:df W0 okIn B us tm ob nt E a){n:Nat}{l:List AV}(b8:ob n=some (.cells l)):∃ b cs T fr,E.mu n=some ⟨some ⟨b,0,none⟩,1,true,0⟩/\E.w.heap[b]? =some (.cells cs T fr)/\aR E l cs.toList/\
  (iT E [(n,some (.hM l))]).ok b/\eO (iT E [(n,some (.hM l))]) n (.hM l)/\AV.cI us l/\us n:=by
 obtain⟨⟨b,cs,T,fr,h1,h2,h3,h4⟩,h5,h6⟩:=hs.obj n _ b8
 have hl:aQ [(n,some (AO.hM l))] n=some (some (.hM l)):=by simp[aQ]
 have cR:(iT E [(n,some (.hM l))]).ok b:=.inr ⟨n,by simp[hl],⟨_,h1,rfl,rfl⟩⟩
 exact⟨b,cs,T,fr,h1,h2,h4,cR,⟨b,cs,T,fr,by simp[iT,hl,h1],cR,h2,aR.mono znq _ _ h5 h4⟩,h5,h6⟩
theorem Rw(hs:df W0 okIn B us tm ob nt E a){n:Nat}{l:List AV}(b8:ob n=some (.cells l))(nm:Nat):cK W0 okIn B us (eC us nm) E (iT E [(n,some (.hM l))]) [(n,some (.hM l))]:=by
 obtain⟨b0,cs,T,fr,h1,h2,h3,cR,kg,cO,yt⟩:=Zo hs b8
 have HJ:∀ m r,aQ [(n,some (AO.hM l))] m=some r->m=n/\r=some (.hM l):=fun m r h=>by
  simp only[aQ] at h
  cases hb:Nat.beq m n with
  | true=>
   rw[hb] at h
   simp only[Option.some.injEq] at h
   exact⟨beq_true hb,h.symm⟩
  | false=>rw[hb] at h;simp at h
 refine⟨fun _ h=>.inl h,fun n h=>by simp[iT,h],fun m _ L' h=>?_,fun m h=>?_,fun m o h=>?_,fun _ _ _=>rfl,fun b h=>.inl h,?_⟩
 ·obtain⟨L,k1,k2,k3,k4,_⟩:=D5 h
  exact⟨L,k1,k2,k3,k4⟩
 ·have:=(HJ m _ h).2
  simp at this
 ·obtain⟨rfl,h4⟩:=HJ m _ h
  simp only[Option.some.injEq] at h4
  subst h4
  exact⟨kg,AV.u3 (fun _ h=>.inl h) _ cO,.inl yt⟩
 ·have he:=hs.env
  refine⟨fun n m b h1 h2=>he.inj n m b (AQ h1).1 (AQ h2).1,fun n b h=>?_,fun b h=>?_,fun b h=>.inl (he.sr b h),he.fr,he.sz,he.new,he.os,he.tape,he.output,fun n L h hn=>?_⟩
  ·obtain⟨k1,k2⟩:=AQ h
   have:=he.own _ b k1
   refine⟨this.1,this.2.1,fun hb=>?_⟩
   rcases hb with hb | ⟨m,hm,hb⟩
   ·exact this.2.2 hb
   ·have:=he.inj _ m b k1 hb
    subst this
    rw[k2] at hm
    simp at hm
  ·rcases h with h | ⟨m,_,h⟩
   ·exact he.iR b h
   ·have:=he.own m b h
    exact⟨this.2.1,.inr this.1⟩
  ·obtain⟨L0,k1,k2,k3,k4,_⟩:=D5 h
   obtain⟨L1,g1,g2,g3,g4⟩:=he.li _ L0 k1 hn
   exact⟨L1,g1,g2.trans k2,g3.trans k3,g4.trans k4⟩
theorem znr(hs:df W0 okIn B us tm ob nt E a){T:TypeId}{v:AV}{x:Value}{t:kc}{u:cx}(h:DB ob T v=some (t,u))(hv:VR E v x)(nm:Nat):
  ∃ E',E'.w=E.w/\cK W0 okIn B us (eC us nm) E E' u/\VR E' (.er t) (.iface T x):=by
 unfold DB at h
 split at h
 ·rename_i n off
  split at h
  ·rename_i l HK b8
   have HK:=beq_true HK
   subst HK
   split at h
   ·rename_i y z
    split at h
    ·rename_i e he
     obtain⟨b,cs,T',fr,h1,h2,h3,cR,_,_,_⟩:=Zo hs b8
     have hx:x=.pointer (some ⟨b,0,none⟩):=by
      simp only[VR] at hv
      obtain⟨b',hb,hv⟩:=hv.2 _ h1
      simp only[Option.some.injEq,Addr.mk.injEq] at hb
      rw[hv,<-hb.1]
     have row:∀ c d,cs.toList=[c,d]->Row E.w b 0 [c,d]:=fun c d hcd=>by
      have:=pZ h2
      rw[hcd] at this
      exact this
     have iE:∀ c,VR E z c->eT (iT E [(n,some (.hM [y,z]))]).w (iT E [(n,some (.hM [y,z]))]).ok e c:=fun c hc=>eT.mono (w:=E.w) (ok:=E.ok) (fun _ _=>rfl) (fun _ h=>.inl h) _ _ (Rf (E:=E) he hc)
     split at h
     ·rename_i k m
      split at h
      ·simp only[Option.some.injEq,Prod.mk.injEq] at h
       obtain⟨rfl,rfl⟩:=h
       refine⟨iT E _,rfl,Rw hs b8 nm,?_⟩
       simp only[aR,VR] at h3
       obtain⟨c,r,h3,rfl,d,r',rfl,hd,rfl⟩:=h3
       simp only[VR,eT]
       exact⟨b,d,by rw[hx],cR,row _ _ h3,iE d hd⟩
      ·simp at h
     ·simp only[Option.some.injEq,Prod.mk.injEq] at h
      obtain⟨rfl,rfl⟩:=h
      refine⟨iT E _,rfl,Rw hs b8 nm,?_⟩
      simp only[aR,VR] at h3
      obtain⟨c,r,h3,rfl,d,r',rfl,hd,rfl⟩:=h3
      simp only[VR,eT]
      exact⟨b,d,by rw[hx],cR,row _ _ h3,iE d hd⟩
     ·simp at h
    ·simp at h
   ·split at h
    ·simp only[Option.some.injEq,Prod.mk.injEq] at h
     obtain⟨rfl,rfl⟩:=h
     exact⟨iT E _,rfl,Rw hs b8 nm,by simp only[VR,eT];exact⟨_,rfl⟩⟩
    ·simp at h
   ·simp at h
  ·simp at h
 ·simp at h
theorem Zp{P:Program}{T:TypeId}{k:IntKind}{e:Sh}{d:e.T}(h:An P T=some (k,⟨e,d⟩))(E:Env):
  ∃ kt et z,P.underlying T=some (.map kt et)/\P.underlying kt=some (.int k)/\(∀ w:World,(zeroValue et).run P w=.ok z w)/\aN E.w E.ok e d [z]:=by
 unfold An at h
 split at h
 case h_2=>simp at h
 rename_i kt et hT
 split at h
 case h_2=>simp at h
 rename_i k' hk
 split at h
 case h_2=>simp at h
 rename_i e' z he hz
 split at h
 case h_2=>simp at h
 split at h
 case h_2=>simp at h
 rename_i d' hd
 simp only[Option.some.injEq,Prod.mk.injEq] at h
 obtain⟨rfl,h⟩:=h
 cases h
 unfold Ye at hz
 split at hz
 case h_2=>simp at hz
 rename_i i hi
 split at hz
 case h_2=>simp at hz
 rename_i zv hzv
 simp only[Option.some.injEq] at hz
 subst hz
 exact⟨kt,et,zv,hT,hk,fun w=>by simp[zeroValue,typeInfo,hi,hzv],DS hd (by simp only[aR];exact⟨zv,[],rfl,(Mz E zv fun _=>True).1,rfl⟩)⟩
theorem Rx{w:World}{ok:Nat->Prop}{k:IntKind}{e:Sh}(j:Int)(d:e.T):∀ {l:List (Int×e.T)} {ms:List MapEntry} (i:Nat),lq w ok k e l ms->
  (wq l j=false/\Instr.findNow (.int k) (.int k j) ms i=some none/\Am l j d=d/\∀ y v b,aN w ok e y [v]->lq w ok k e (wu l j y) (ms++[⟨.int k j,v,b⟩]))\/
  (wq l j=true/\∃ p m,ms[p]? =some m/\m.key=.int k j/\Instr.findNow (.int k) (.int k j) ms i=some (some (i+p,m.val))/\aN w ok e (Am l j d) [m.val]/\
   ∀ y v f,(∀ m:MapEntry,(f m).key=.int k j/\(f m).val=v)->aN w ok e y [v]->lq w ok k e (wu l j y) (ms.modify p f))
 | [],ms,i,h=>by
  simp only[lq] at h
  subst h
  exact .inl ⟨rfl,rfl,rfl,fun y v b hy=>⟨_,[],rfl,rfl,hy,rfl⟩⟩
 | (i0,x)::l,ms,i,h=>by
  obtain⟨m,r,rfl,hk,hx,hr⟩:=h
  have hs:Instr.sameNow (.int k) (.int k j) m.key=some (j==i0):=by rw[hk];simp[Instr.sameNow]
  by_cases hj:i0=j
  ·subst hj
   refine .inr ⟨by simp[wq],0,m,rfl,hk,by simp[Instr.findNow,hs],by simpa [Am] using hx,fun y v f hf hy=>?_⟩
   simp only[wu,if_true,List.modify_zero_cons]
   exact⟨f m,r,rfl,(hf m).1,by rw[(hf m).2];exact hy,hr⟩
  ·have eW:(j==i0)=false:=by simp;exact fun h=>hj h.symm
   rcases Rx j d (i+1) hr with⟨a1,a2,a3,a4⟩ | ⟨a1,p,m',b1,b0,b2,b3,b4⟩
   ·refine .inl ⟨by simp[wq,hj,a1],by simp only[Instr.findNow,hs,eW,a2],by simp[Am,hj,a3],fun y v b hy=>?_⟩
    simp only[wu,if_neg hj,List.cons_append]
    exact⟨m,_,rfl,hk,hx,a4 y v b hy⟩
   ·refine .inr ⟨by simp[wq,hj,a1],p+1,m',by simpa using b1,b0,by simp only[Instr.findNow,hs,eW,b2];congr 3;omega,by simpa [Am,hj] using b3,fun y v f hf hy=>?_⟩
    simp only[wu,if_neg hj,List.modify_succ_cons]
    exact⟨m,_,rfl,hk,hx,b4 y v f hf hy⟩
theorem Zq{P:Program}{kt:TypeId}{k:IntKind}(h:P.underlying kt=some (.int k))(b:Bool)(j:Int)(w:World):(Instr.checkKey b 10000 kt (.int k j)).run P w=.ok () w:=by
 unfold Instr.checkKey
 simp[run_underlying h]
theorem Zr{e:Sh}{x:e.T}{v:AV}{z:Value}(hf:e.flat=true)(h:G4 (enc e x)=some v)(hx:aN E.w E.ok e x [z]):VR E v z/\∀ p,v.nm p:=by
 have h1:=tJ e hf x [z] hx
 have h2:=fun p=>qM p e x
 rw[MD h] at h1
 simp only[aR] at h1
 obtain⟨z',q,hz,h3,_⟩:=h1
 simp only[List.cons.injEq] at hz
 refine⟨by rw[hz.1];exact h3,fun p=>?_⟩
 have:=h2 p
 rw[MD h] at this
 exact this.1
theorem znu{P:Program}(hs:df W0 okIn B us tm ob nt E a){nm:Nat}(cO:¬ us nm){T:TypeId}(k:IntKind)(e:Sh):
  ∃ E' z,(Instr.makeMap T none).run P E.w=.ok z E'.w/\cK W0 okIn B us (eC us nm) E E' [(nm,some (.mp k e []))]/\VR E' (.mpr nm) z:=by
 refine⟨⟨{ E.w with heap:=E.w.heap.push (.map #[] 0) },gT E.mu nm (some ⟨some ⟨E.w.heap.size,0,none⟩,1,true,0⟩),E.ok⟩,.map (some E.w.heap.size),?_,?_,?_⟩
 ·simp[Instr.makeMap]
 ·refine cK.new hs.env hs.lo cO (AE E.w _) (by simp) rfl rfl rfl (fun _=>⟨_,rfl,Nat.le_refl _,by simp⟩) ?_ (by simp[AO.nm])
  exact⟨E.w.heap.size,#[],0,jV _ _ _,AF _ _,rfl⟩
 ·simp only[VR,eL,true_and]
  intro L hL
  simp only[jV,Option.some.injEq] at hL
  subst hL
  exact⟨_,rfl,rfl⟩
theorem znv{e:Sh}(h:Ms e=true):e.flat=true:=by cases e<;>simp[Ms] at h<;>rfl
theorem znw{P:Program}{T:TypeId}{k:IntKind}{e:Sh}{d:e.T}(h:An P T=some (k,⟨e,d⟩)):Ms e=true:=by
 unfold An at h
 split at h
 case h_2=>simp at h
 split at h
 case h_2=>simp at h
 split at h
 case h_2=>simp at h
 split at h
 case h_2=>simp at h
 rename_i hl
 split at h
 case h_2=>simp at h
 simp only[Option.some.injEq,Prod.mk.injEq] at h
 obtain⟨_,h⟩:=h
 cases h
 exact hl
theorem znx{P:Program}(hs:df W0 okIn B us tm ob nt E a){T:TypeId}{c:Bool}{x j r:AV}{v jv:Value}(hl:pT ob x=true)(h:DC P T c ob x j=some r)(hx:VR E x v)(hj:VR E j jv):
  ∃ z,(Instr.lookup T v jv c).run P E.w=.ok z E.w/\VR E r z/\∀ p,r.nm p:=by
 unfold DC at h
 split at h
 case h_2=>simp at h
 rename_i n k' j
 simp only[VR] at hj
 subst hj
 split at h
 case h_2=>simp at h
 rename_i k e d MY
 obtain⟨kt,et,zv,hT,hk,hz,hd⟩:=Zp MY E
 have qa:=znv (znw MY)
 split at h
 case h_2=>simp at h
 rename_i nW e' l b8
 split at h
 case isFalse=>simp at h
 rename_i Aw
 obtain⟨rfl,rfl⟩:=Aw
 split at h
 case isFalse=>simp at h
 rename_i he
 subst he
 split at h
 case h_2=>simp at h
 rename_i u hu
 obtain⟨h1,h2,h3⟩:=hs.obj n _ b8
 obtain⟨b,es,AR,g1,g2,g3⟩:=h1
 simp only[VR] at hx
 obtain⟨b',cL,rfl⟩:=hx.2 _ g1
 simp only[Option.some.injEq,Addr.mk.injEq,and_true] at cL
 subst cL
 have yu:(getObj b).run P E.w=.ok (.map es AR) E.w:=by simp[getObj,Sem.run,g2]
 have AS:=run_underlying (w:=E.w) hk
 have HM:=run_underlying (w:=E.w) hT
 have HN:=Zq (P:=P) hk es.isEmpty j E.w
 simp only at hu
 have fin:∀ (zz:Value) (bb:Bool),bb=wq l j->VR E u zz->(∀ p,u.nm p)->(Instr.lookup T (.map (some b)) (.int nW j) c).run P E.w=.ok (if c then .tuple #[zz,.bool bb] else zz) E.w->
   ∃ z,(Instr.lookup T (.map (some b)) (.int nW j) c).run P E.w=.ok z E.w/\VR E r z/\∀ p,r.nm p:=by
  rintro zz bb rfl hv D7 dE
  refine⟨_,dE,?_⟩
  cases c with
  | true=>
   simp only[Option.some.injEq] at h
   subst h
   refine⟨?_,fun p=>⟨D7 p,trivial,trivial⟩⟩
   simp only[VR,if_true,aR]
   exact⟨[zz,.bool (wq l j)],rfl,_,_,rfl,hv,_,_,rfl,rfl,rfl⟩
  | false=>
   simp only[Option.some.injEq] at h
   subst h
   exact⟨hv,D7⟩
 rcases Rx j d 0 g3 with⟨a1,a2,a3,a4⟩ | ⟨a1,p,m',b1,b0,b2,b3,b4⟩
 ·rw[a3] at hu
  obtain⟨hv,D7⟩:=Zr qa hu hd
  refine fin zv false a1.symm hv D7 ?_
  simp[Instr.lookup,HM,yu,HN,Instr.findKey,AS,a2,hz]
 ·obtain⟨hv,D7⟩:=Zr qa hu b3
  refine fin m'.val true a1.symm hv D7 ?_
  simp[Instr.lookup,HM,yu,HN,Instr.findKey,AS,b2]
theorem zny{P:Program}(hs:df W0 okIn B us tm ob nt E a){nm:Nat}{T:TypeId}{x j y:AV}{v jv yv:Value}{u:cx}(h:DD P T ob x j y=some u)(hx:VR E x v)(hj:VR E j jv)(hy:VR E y yv):
  ∃ E',(Instr.mapUpdate T v jv yv).run P E.w=.ok () E'.w/\cK W0 okIn B us (eC us nm) E E' u:=by
 unfold DD at h
 split at h
 case h_2=>simp at h
 rename_i n k' j
 simp only[VR] at hj
 subst hj
 split at h
 case h_2=>simp at h
 rename_i k e d MY
 obtain⟨kt,et,zv,hT,hk,hz,hd⟩:=Zp MY E
 split at h
 case h_2=>simp at h
 rename_i nW e' l b8
 split at h
 case isFalse=>simp at h
 rename_i Aw
 obtain⟨rfl,rfl,rfl⟩:=Aw
 split at h
 case h_2=>simp at h
 rename_i t ht
 simp only[Option.some.injEq] at h
 subst h
 have wJ:aN E.w E.ok e t [yv]:=DS ht (by simp only[aR];exact⟨yv,[],rfl,hy,rfl⟩)
 obtain⟨h1,h2,h3⟩:=hs.obj n _ b8
 obtain⟨b,es,AR,g1,g2,g3⟩:=h1
 simp only[VR] at hx
 obtain⟨b',cL,rfl⟩:=hx.2 _ g1
 simp only[Option.some.injEq,Addr.mk.injEq,and_true] at cL
 subst cL
 have yu:(getObj b).run P E.w=.ok (.map es AR) E.w:=by simp[getObj,Sem.run,g2]
 have AS:=run_underlying (w:=E.w) hk
 have HM:=run_underlying (w:=E.w) hT
 have HN:=Zq (P:=P) hk false j E.w
 have dS:cV E n b:=⟨_,g1,rfl,rfl⟩
 have hb:b<E.w.heap.size:=(hs.env.own n b dS).2.1
 have jW:∀ o:Obj,(setObj b o).run P E.w=.ok () { E.w with heap:=E.w.heap.setIfInBounds b o }:=fun o=>by simp[setObj,Sem.run,g2]
 have fin:∀ (HO:Array MapEntry) (MZ:Nat),lq E.w E.ok nW e (wu l j t) HO.toList->(Instr.mapUpdate T (.map (some b)) (.int nW j) yv).run P E.w=.ok () { E.w with heap:=E.w.heap.setIfInBounds b (.map HO MZ) }->
   ∃ E',(Instr.mapUpdate T (.map (some b)) (.int nW j) yv).run P E.w=.ok () E'.w/\cK W0 okIn B us (eC us nm) E E' [(n,some (.mp nW e (wu l j t)))]:=by
  intro HO MZ hm dE
  have eJ:∀ c,c<E.w.heap.size->¬ cV E n c->({ E.w with heap:=E.w.heap.setIfInBounds b (.map HO MZ) }:World).heap[c]? =E.w.heap[c]? :=by
   intro c hc fV
   have eW:b≠c:=fun lV=>fV (lV▸dS)
   simp[eW]
  refine⟨⟨_,E.mu,E.ok⟩,dE,cK.set hs.env h3 eJ (by simp) rfl rfl rfl ?_ (by simp[AO.nm])⟩
  exact⟨b,HO,MZ,g1,by simp[hb],lq.mono (AH hs.env eJ) (fun _ h=>h) hm⟩
 rcases Rx j d 0 g3 with⟨a1,a2,a3,a4⟩ | ⟨a1,p,m',b1,b0,b2,b3,b4⟩
 ·refine fin (es.push ⟨.int nW j,yv,AR⟩) (AR+1) (by simpa using a4 t yv AR wJ) ?_
  simp[Instr.mapUpdate,HM,yu,HN,Instr.findKey,AS,a2,jW]
 ·have hp:es[p]? =some m':=by simpa using b1
  refine fin (es.modify p fun e=>{ e with key:=.int nW j,val:=yv }) AR (by
   rw[Array.toList_modify]
   exact b4 t yv _ (fun m=>⟨rfl,rfl⟩) wJ) ?_
  have Zs:(Instr.keyThatStays m'.key (.int nW j)).run P E.w=.ok (.int nW j) E.w:=by
   rw[b0];simp[Instr.keyThatStays,Instr.sameBits]
  simp[Instr.mapUpdate,HM,yu,HN,Instr.findKey,AS,b2,hp,Zs,jW]
end
def D8(P:Program)[Tabs P](F:FuncId)(args:List AV)(ob:Nat->Option AO)(nm:Nat)(r:AV)(u:cx):Prop:=
 (∃ fn, P.funcs[F]? = some fn ∧ (fn.name == "runtime.NumGoroutine") = false ∧ fn.body.isNone = false) ∧
 ∀ (W0:WX) (okIn B us:Nat->Prop) (E:Env) (vs:List Value),yc P W0 B->jm W0 okIn B E->(∀ n,n<16->us n)->(∀ n,nm<=n->n<nm+16->¬ us n)->(∀ n o,ob n=some o->eO E n o/\o.nm us/\us n)->(∀ n L,E.mu n=some L->∃ o,ob n=some o)->
  aR E args vs->AV.cI us args->
  Calls P F vs.toArray E.w fun e w'=>∃ E' x,E'.w=w'/\e=.returned x/\cK W0 okIn B us (eC us nm) E E' u/\VR E' r x/\r.nm (eC us nm)
structure CtxOK1(P:Program)[Tabs P](C:Ctx):Prop where
 ok:∀ F args ob nm p r u,C F args ob nm=some (p,r,u)->p->D8 P F args ob nm r u
structure M0(P:Program)[Tabs P](C:Ctx):Prop extends CtxOK1 P C where
 M1:∀ F args ob ob' nm,(∀ n,AV.dK n (lu ob args)=true->ob n=ob' n)->C F args ob nm=C F args ob' nm
section
variable {W0:WX} {okIn B us:Nat->Prop} {tm:Nat->Option AV} {ob:Nat->Option AO} {nt:Nat} {E:Env} {a:Act}
theorem iF{P:Program}{w w':World}{s:Sem Value}{x:Value}(h:s.run P w=.ok x w'):((do pure (.value (← s))):Sem Next).run P w=.ok (.value x) w':=by
 simp[h]
theorem eX{p q:List Prop}(hq:∀ r∈bQ p q,r):∀ r∈p,r:=fun r hr=>hq r (da.2 (.inl hr))
theorem eY{p q:List Prop}(hq:∀ r∈bQ p q,r):∀ r∈q,r:=fun r hr=>hq r (da.2 (.inr hr))
theorem znz{P:Program}[Tabs P]{C:Ctx}(hC:CtxOK1 P C)(hT:yc P W0 B)(hs:df W0 okIn B us tm ob nt E a){nm:Nat}(cO:∀ n,nm<=n->n<nm+16->¬ us n){o:Oper}{c:Call}{f:Operand}(bT:o.op=.call c)(hc:c.callee=.value f)
  {F:FuncId} {first cap args:List AV} (hf:VR E (.fn F first cap) (a.eval f)) (M3:(AV.fn F first cap).nm us) (M4:aR E args (c.args.toList.map a.eval)) (znA:AV.cI us args)
  {p:Prop} {r:AV} {u:cx} (h:C F (bQ first (bQ args cap)) ob nm=some (p,r,u)) (hp:p):ei P o a W0 okIn B us nm E r u:=by
 intro K Q hK
 obtain⟨⟨fn,h1,h2,h3⟩,HP⟩:=hC.ok _ _ _ _ _ _ _ h hp
 simp only[VR] at hf
 obtain⟨x,y,hv,hx,hy⟩:=hf
 have znB:bQ first (bQ args cap)=first++(args++cap):=by rw[iC,iC]
 rw[znB] at HP
 have fA:=hx.append (M4.append hy)
 have znC:=HP W0 okIn B us E _ hT hs.env hs.lo cO (fun n o hn=>hs.obj n o hn) hs.dom fA (DM M3.1 (DM znA M3.2))
 unfold Oper.wp
 have dE:(execOp a.eval o).run P E.w=.ok (.enter F (x++(c.args.toList.map a.eval++y)).toArray) E.w:=by
  simp only[execOp,bT,resolve,hc,hv,Deferred.ofValue,Sem.run_bind,Sem.run_pure,Result.andThen_ok,invoke,callFunc,run_program,h1,h2,h3,Bool.false_eq_true,if_false]
  congr 2
  apply Array.ext'
  simp
 rw[dE]
 simp only[Oper.upon]
 refine Calls.mono znC fun e w' he=>?_
 obtain⟨E',z,rfl,rfl,iE,hz,D9⟩:=he
 exact hK E' z iE hz D9
theorem Zt{P:Program}[Tabs P]{C:Ctx}(hC:CtxOK1 P C)(hT:yc P W0 B)(hs:df W0 okIn B us tm ob nt E a){nm:Nat}(wK:∀ n,nm<=n->n<nm+16->¬ us n){o:Oper}{R:Ya}(h:mH P C tm ob nm o=some R)(hq:∀ p∈R.eU,p):
  ei P o a W0 okIn B us nm E R.v R.u:=by
 have cO:¬ us nm:=wK nm (Nat.le_refl _) (by omega)
 unfold mH at h
 split at h
 ·rename_i x bT
  obtain⟨p,v,h1,h2,h3⟩:=fR hs h
  simp only[Option.some.injEq] at h1
  subst h1
  exact ei.value hs (by simp[execOp,bT]) (h2 hq) (h3 hq)
 ·rename_i x bT
  obtain⟨p,v,h1,h2,h3⟩:=fR hs h
  simp only[Option.some.injEq] at h1
  subst h1
  exact ei.value hs (by simp[execOp,bT]) (h2 hq) (h3 hq)
 ·rename_i c x y bT
  obtain⟨p,v,h1,h2,h3⟩:=fR hs h
  split at h1
  ·rename_i t
   split at h1
   ·rename_i q r hp
    simp only[Option.some.injEq] at h1
    subst h1
    have hc:=h2 (eX hq)
    simp only[VR] at hc
    obtain⟨g1,g2⟩:=zni hp (eY hq) (Hh hs x).1 (Hh hs y).1 (fun c hc=>by rw[hc];rfl) (fun c hc=>by rw[hc];rfl)
    refine ei.value hs (x:=if t then a.eval x else a.eval y) ?_ g1 (g2 us)
    simp only[execOp,bT,hc,asBool,Sem.run_bind,Sem.run_pure,Result.andThen_ok]
   ·simp at h1
  ·simp at h1
 ·rename_i T bT
  split at h
  ·rename_i l hz
   split at h
   ·rename_i e he
    split at h
    ·rename_i x hx
     simp only[Option.some.injEq] at h
     subst h
     obtain⟨E',z,h1,h2,h3⟩:=zmE hs cO hz hx
     exact ei.qL (by simp only[execOp,bT];exact iF h1) h2 h3 (oY)
    ·simp at h
   split at h
   ·rw[DK] at h
    simp only[Option.some.injEq] at h
    subst h
    obtain⟨E',z,h1,h2,h3⟩:=zmB hs cO hz
    exact ei.qL (by simp only[execOp,bT];exact iF h1) h2 h3 (oY)
   ·simp at h
  ·simp at h
 ·rename_i T x bT
  obtain⟨p,v,h1,h2,h3⟩:=fR hs h
  split at h1
  ·rename_i e he
   split at h1
   ·rename_i y hy
    simp only[Option.some.injEq] at h1
    subst h1
    obtain⟨E',z,g1,g2,g3⟩:=zmU (T:=T) hs cO hy (h2 hq)
    exact ei.qL (by simp only[execOp,bT];exact iF g1) g2 g3 (oY)
   ·simp at h1
  split at h1
  ·rename_i l hl
   simp only[Option.some.injEq] at h1
   subst h1
   obtain⟨E',z,g1,g2,g3⟩:=zmA (T:=T) hs cO hl (h2 hq) (h3 hq)
   exact ei.qL (by simp only[execOp,bT];exact iF g1) g2 g3 (oY)
  ·simp at h1
 ·rename_i T parts bT
  split at h
  ·obtain⟨p,l,h1,h2,h3⟩:=MI hs h
   split at h1
   ·rename_i v hv
    simp only[Option.some.injEq] at h1
    subst h1
    obtain⟨y,g1,g2,g3⟩:=zmY hv (h2 hq) E.w
    refine ei.value hs ?_ g2 (g3 us)
    simp only[execOp,bT]
    refine iF ?_
    have:(parts.map fun (i,x)=>(i,a.eval x))=(parts.toList.map fun x=>(x.1,a.eval x.2)).toArray:=by
     apply Array.ext';simp
    rw[this]
    exact g1
   ·simp at h1
  split at h
  ·rename_i z pl hz jG
   obtain⟨p,l,h1,h2,h3⟩:=MI hs h
   split at h1
   ·rename_i l' hl
    rw[DK] at h1
    simp only[Option.some.injEq] at h1
    subst h1
    obtain⟨y,g1,g2,g3⟩:=zmI hz jG hl (h2 hq) (h3 hq) E.w
    refine ei.value hs ?_ g2 g3
    simp only[execOp,bT]
    refine iF ?_
    have:(parts.map fun (i,x)=>(i,a.eval x))=(parts.toList.map fun x=>(x.1,a.eval x.2)).toArray:=by
     apply Array.ext';simp
    rw[this]
    exact g1
   ·simp at h1
  ·simp at h
 ·rename_i T r bT
  split at h
  ·rename_i k e d hm
   simp only[Option.some.injEq] at h
   subst h
   obtain⟨E',z,g1,g2,g3⟩:=znu (P:=P) hs cO (T:=T) k e
   exact ei.qL (by simp only[execOp,bT,Option.map_none];exact iF g1) g2 g3 (oY)
  ·simp at h
 ·rename_i T x j c bT
  obtain⟨p,v,h1,h2,h3⟩:=fR hs h
  obtain⟨p',v',cW,gF,jH⟩:=fR hs h1
  split at cW
  ·rename_i r hl hr
   simp only[Option.some.injEq] at cW
   subst cW
   obtain⟨z,g1,g2,g3⟩:=znx hs hl hr (h2 (eX hq)) (gF (eY hq))
   exact ei.value hs (by simp only[execOp,bT];exact iF g1) g2 (g3 us)
  ·simp at cW
 ·rename_i T x j y bT
  obtain⟨p,v,h1,h2,h3⟩:=fR hs h
  obtain⟨p',v',cW,gF,jH⟩:=fR hs h1
  obtain⟨p'',Zu,M5,znE,zF7⟩:=fR hs cW
  split at M5
  ·rename_i u hu
   simp only[Option.some.injEq] at M5
   subst M5
   obtain⟨E',g1,g2⟩:=zny (nm:=nm) hs hu (h2 (eX hq)) (gF (eX (eY hq))) (znE (eY (eY hq)))
   refine ei.skip ?_ g2
   simp[execOp,bT,g1]
  ·simp at M5
 ·rename_i T n parts bT
  split at h
  ·rename_i el hT
   split at h
   ·rename_i e he
    obtain⟨p,l,h1,h2,h3⟩:=MI hs h
    split at h1
    ·rename_i ts tH pY hl
     split at h1
     ·rename_i z hz
      simp only[Option.some.injEq] at h1
      subst h1
      have e1:=beq_true tH
      rw[lS] at e1
      obtain⟨E',y,g1,g2,g3⟩:=YK hs cO hT he hz e1 (Nat.le_of_ble_eq_true pY) hl (h2 hq)
      refine ei.qL ?_ g2 g3 (oY)
      simp only[execOp,bT]
      refine iF ?_
      have:(parts.map fun (i,x)=>(i,a.eval x))=(parts.toList.map fun x=>(x.1,a.eval x.2)).toArray:=by
       apply Array.ext';simp
      rw[this]
      exact g1
     ·simp at h1
    ·rename_i tH pY hl
     split at h1
     ·rename_i ts z Ea hz
      simp only[Option.some.injEq] at h1
      subst h1
      have e1:=beq_true tH
      rw[lS] at e1
      have hu:=Zf (ob:=ob) l
      have Rz:=Zi hs hu
      obtain⟨E',y,g1,g2,g3⟩:=YK Rz cO hT he hz ((Zm l).trans e1) (Nat.le_of_ble_eq_true pY) Ea (Zn hs hu (h2 hq) (h3 hq) fun m r hm=>hu.look hm)
      refine ei.qL ?_ (cK.gR hs hu g2) g3 (oY)
      simp only[execOp,bT]
      refine iF ?_
      have:(parts.map fun (i,x)=>(i,a.eval x))=(parts.toList.map fun x=>(x.1,a.eval x.2)).toArray:=by
       apply Array.ext';simp
      rw[this]
      exact g1
     ·simp at h1
    ·simp at h1
   ·simp at h
  ·simp at h
 ·rename_i T x bT
  obtain⟨p,v,h1,h2,h3⟩:=fR hs h
  split at h1
  ·rename_i q r hl
   rw[jU] at h1
   simp only[Option.some.injEq] at h1
   subst h1
   obtain⟨z,g1,g2,g3⟩:=YA hs hl (eY hq) (h2 (eX hq))
   exact ei.value hs (by simp only[execOp,bT];exact iF g1) g2 g3
  ·simp at h1
 ·rename_i T x y bT
  obtain⟨p,v,h1,h2,h3⟩:=fR hs h
  obtain⟨p',v',cW,gF,jH⟩:=fR hs h1
  split at cW
  ·rename_i q u hl
   simp only[Option.some.injEq] at cW
   subst cW
   obtain⟨E',g1,g2⟩:=zmV (nm:=nm) hs hl (eY (eY hq)) (h2 (eX hq)) (gF (eX (eY hq)))
   refine ei.skip ?_ g2
   simp[execOp,bT,g1]
  split at cW
  ·rename_i q u hl
   simp only[Option.some.injEq] at cW
   subst cW
   obtain⟨E',g1,g2⟩:=YM (nm:=nm) hs hl (eY (eY hq)) (h2 (eX hq)) (gF (eX (eY hq))) (jH (eX (eY hq)))
   refine ei.skip ?_ g2
   simp[execOp,bT,g1]
  ·split at cW
   ·rename_i q u hl
    simp only[Option.some.injEq] at cW
    subst cW
    have hu:=Ze (ob:=ob) v'
    have Rz:=Zi hs hu
    obtain⟨k1,k2⟩:=Zl hs hu (gF (eX (eY hq))) (jH (eX (eY hq))) fun m r hm=>hu.look hm
    have hx:=VR.mono ((MX hs hu).Hf hs.env) _ _ (h3 (eX hq)) (h2 (eX hq))
    obtain⟨E',g1,g2⟩:=YM (nm:=nm) Rz hl (eY (eY hq)) hx k1 k2
    refine ei.skip ?_ (cK.gR hs hu g2)
    have RA:(Instr.storeAt T (a.eval x) (a.eval y)).run P E.w=.ok () E'.w:=g1
    simp[execOp,bT,RA]
   ·simp at cW
 ·rename_i x bT
  obtain⟨p,v,h1,h2,h3⟩:=fR hs h
  split at h1
  ·rename_i hl
   split at h1
   ·simp only[Option.some.injEq] at h1
    subst h1
    have hv:=h2 hq
    have ki:=hv
    simp only[VR] at hv
    obtain⟨L,hL,_⟩:=nw hs hl
    obtain⟨b,_,hb⟩:=hv.2 L hL
    exact ei.value hs (by simp[execOp,bT,hb];rfl) (by rw[<-hb];exact ki) (h3 hq)
   ·simp only[Option.some.injEq] at h1
    subst h1
    have hv:=h2 hq
    have ki:=hv
    simp only[VR] at hv
    obtain⟨b,o',cs,hb,_⟩:=hv
    exact ei.value hs (by simp[execOp,bT,hb];rfl) (by rw[<-hb];exact ki) (h3 hq)
   ·simp only[Option.some.injEq] at h1
    subst h1
    have hv:=h2 hq
    have ki:=hv
    simp only[VR] at hv
    obtain⟨L,hL,_⟩:=nw hs hl
    obtain⟨b,_,hb⟩:=hv.2 L hL
    exact ei.value hs (by simp[execOp,bT,hb];rfl) (by rw[<-hb];exact ki) (h3 hq)
   ·simp only[Option.some.injEq] at h1
    subst h1
    have hv:=h2 hq
    have ki:=hv
    simp only[VR] at hv
    obtain⟨y,z,hb,_⟩:=hv
    exact ei.value hs (by simp[execOp,bT,hb];rfl) (by rw[<-hb];exact ki) (h3 hq)
   ·simp at h1
  ·simp at h1
 ·rename_i op T x y yT bT
  obtain⟨p,v,h1,h2,h3⟩:=fR hs h
  obtain⟨p',v',cW,gF,jH⟩:=fR hs h1
  split at cW
  ·rename_i r hl
   simp only[Option.some.injEq] at cW
   subst cW
   obtain⟨z,g1,g2,g3⟩:=zmi (v:=a.eval y) E.w (fun n hl=>(nw hs hl).imp fun _ h=>h.1) x y hl (h2 (eX hq)) (fun c hc=>by subst hc;rfl)
   exact ei.value hs (by simp only[execOp,bT];exact iF g1) g2 (g3 us)
  split at cW
  ·rename_i q r hl
   simp only[Option.some.injEq] at cW
   subst cW
   obtain⟨z,g1,g2,g3⟩:=zmh E.w x y hl (eY (eY hq)) (h2 (eX hq)) (gF (eX (eY hq)))
   exact ei.value hs (by simp only[execOp,bT];exact iF g1) g2 (g3 us)
  ·simp at cW
 ·rename_i op T x bT
  obtain⟨p,v,h1,h2,h3⟩:=fR hs h
  split at h1
  ·simp only[Option.some.injEq] at h1
   subst h1
   have hv:=h2 hq
   simp only[VR] at hv
   exact ei.value hs (by simp only[execOp,bT,hv];exact iF (by simp[Op.unary])) VR.bool (by simp[AV.nm])
  ·simp only[Option.some.injEq] at h1
   subst h1
   have hv:=h2 hq
   simp only[VR] at hv
   exact ei.value hs (by simp only[execOp,bT,hv];exact iF (by simp only[Op.unary,Op.intArith,Sem.run_pure])) VR.int (by simp[AV.nm])
  ·simp only[Option.some.injEq] at h1
   subst h1
   have hv:=h2 hq
   simp only[VR] at hv
   exact ei.value hs (by simp only[execOp,bT,hv];exact iF (by simp only[Op.unary,Op.intBits,uP,Sem.run_pure])) VR.int (by simp[uP,AV.nm])
  ·simp at h1
 ·rename_i src dst x bT
  obtain⟨p,v,h1,h2,h3⟩:=fR hs h
  split at h1
  ·rename_i q w u hl
   simp only[Option.some.injEq] at h1
   subst h1
   obtain⟨E',z,g1,g2,g3,g4⟩:=zm9 hs cO hl (eY hq) (h2 (eX hq))
   exact ei.qL (by simp only[execOp,bT];exact iF g1) g2 g3 g4
  ·simp at h1
 ·rename_i arr x bT
  obtain⟨p,v,h1,h2,h3⟩:=fR hs h
  split at h1
  ·rename_i e xs n e0 s hT M7
   split at h1
   ·rename_i t ht
    simp only[Option.some.injEq] at h1
    subst h1
    have hle:n<=xs.length:=hq _ (da.2 (.inr (List.Mem.head _)))
    have hv:=h2 (eX hq)
    simp only[VR,aN] at hv
    obtain⟨base,cap,hv,hc,hr⟩:=hv
    simp only[List.cons.injEq,and_true] at hv
    have jq:n≠0:=by intro h0;subst h0;simp[x6] at ht
    rcases hr with hr | ⟨b,o',rfl,cR,hr⟩
    ·omega
    ·obtain⟨cs,c1,c2,c3,c4⟩:=Za hr n 0 s t ht (by omega)
     refine ei.value hs (x:=.pointer (some ⟨b,o',none⟩)) ?_ ?_ (by simp[AV.nm])
     ·simp only[execOp,bT,hv]
      refine iF ?_
      simp[Instr.arrayAt,run_underlying hT]
      omega
     ·simp only[VR]
      exact⟨b,o',cs,rfl,cR,c1,by simpa using c3,c4⟩
   ·simp at h1
  ·simp at h1
 ·rename_i T x bT
  obtain⟨p,v,h1,h2,h3⟩:=fR hs h
  split at h1
  ·simp at h1
  ·rename_i d eW hT
   have hex:(execOp a.eval o).run P E.w=.ok (.value (.iface T (a.eval x))) E.w:=by
    simp only[execOp,bT]
    refine iF ?_
    simp only[Instr.makeInterface,Sem.run_bind,run_underlying hT,Result.andThen_ok]
    rfl
   split at h1
   ·rename_i t u he
    simp only[Option.some.injEq] at h1
    subst h1
    obtain⟨E',e1,e2,e3⟩:=znr hs he (h2 hq) _
    exact ei.qL (by rw[e1];exact hex) e2 e3 (by simp[AV.nm])
   ·simp only[Option.some.injEq] at h1
    subst h1
    refine ei.value hs (x:=.iface T (a.eval x)) hex ?_ (h3 hq)
    simp only[VR]
    exact⟨_,rfl,h2 hq⟩
  ·simp at h1
 ·rename_i fn first cap bT
  split at h
  ·rename_i f
   obtain⟨p,v,h1,h2,h3⟩:=DL hs h
   obtain⟨p',v',cW,gF,jH⟩:=DL hs h1
   simp only[Option.some.injEq] at cW
   subst cW
   refine ei.value hs (x:=.func (.func f) (first.toList.map a.eval).toArray (cap.toList.map a.eval).toArray) ?_ ?_ ⟨h3 (eX hq),jH (eY hq)⟩
   ·simp only[execOp,bT]
    refine iF ?_
    have e1:Array.map a.eval first=(List.map a.eval first.toList).toArray:=by apply Array.ext';simp
    have e2:Array.map a.eval cap=(List.map a.eval cap.toList).toArray:=by apply Array.ext';simp
    simp only[Instr.makeFunc,Sem.run_pure,e1,e2]
   ·simp only[VR]
    exact⟨_,_,rfl,h2 (eX hq),gF (eY hq)⟩
  ·simp at h
 ·rename_i T l c bT
  obtain⟨p,v,h1,h2,h3⟩:=fR hs h
  obtain⟨p',v',cW,gF,jH⟩:=fR hs h1
  split at cW
  ·rename_i k n k' m el hT
   split at cW
   ·rename_i e z he hz
    split at cW
    ·rename_i t ht
     simp only[Option.some.injEq] at cW
     subst cW
     have hv:=h2 (eX hq)
     have ki:=gF (eX (eY hq))
     simp only[VR] at hv ki
     have znF:=hq _ (da.2 (.inr (da.2 (.inr (List.Mem.head _)))))
     obtain⟨E',y,g1,g2,g3⟩:=zng (k:=k) (k':=k') hs cO hT he hz ht znF
     exact ei.qL (by simp only[execOp,bT,hv,ki];exact iF g1) g2 g3 (oY)
    ·simp at cW
   ·simp at cW
  ·simp at cW
 ·rename_i T x lo hi mx bT
  obtain⟨p,v,h1,h2,h3⟩:=fR hs h
  split at h1
  ·rename_i q w u hl n5
   simp only[Option.some.injEq] at h1
   subst h1
   obtain⟨E',z,g1,g2,g3,g4⟩:=znd hs cO hl n5 (eY hq) (h2 (eX hq)) (h3 (eX hq))
   exact ei.qL (by simp only[execOp,bT];exact iF g1) g2 g3 g4
  ·simp at h1
 ·rename_i T x f bT
  obtain⟨p,v,h1,h2,h3⟩:=fR hs h
  split at h1
  ·rename_i w hl hf
   simp only[Option.some.injEq] at h1
   subst h1
   obtain⟨z,g1,g2,g3⟩:=zmu hs hl hf (h2 hq) (h3 hq) E.w
   exact ei.value hs (by simp only[execOp,bT];exact iF g1) g2 g3
  ·simp at h1
 ·rename_i T x f bT
  obtain⟨p,v,h1,h2,h3⟩:=fR hs h
  split at h1
  ·rename_i l g hf
   split at h1
   ·rename_i w hw
    rw[jU] at h1
    simp only[Option.some.injEq] at h1
    subst h1
    obtain⟨z,g1,g2,g3⟩:=zms hf hw (h2 hq) (h3 hq) E.w
    exact ei.value hs (by simp only[execOp,bT];exact iF g1) g2 g3
   ·simp at h1
  ·rename_i e y g hf
   split at h1
   ·rename_i w hw
    simp only[Option.some.injEq] at h1
    subst h1
    obtain⟨z,g1,g2⟩:=zmy hf hw (h2 hq) E.w
    exact ei.value hs (by simp only[execOp,bT];exact iF g1) g2 (Rc hw us)
   ·simp at h1
  ·simp at h1
 ·rename_i T x i bT
  obtain⟨p,v,h1,h2,h3⟩:=fR hs h
  obtain⟨p',v',cW,gF,jH⟩:=fR hs h1
  split at cW
  ·rename_i q w hl hi
   simp only[Option.some.injEq] at cW
   subst cW
   obtain⟨z,g1,g2,g3⟩:=zmv hs hl hi (eY (eY hq)) (h2 (eX hq)) (gF (eX (eY hq))) (h3 (eX hq)) E.w
   exact ei.value hs (by simp only[execOp,bT];exact iF g1) g2 g3
  ·simp at cW
 ·rename_i T x i bT
  obtain⟨p,v,h1,h2,h3⟩:=fR hs h
  obtain⟨p',v',cW,gF,jH⟩:=fR hs h1
  split at cW
  ·rename_i q w hi
   rw[jU] at cW
   simp only[Option.some.injEq] at cW
   subst cW
   obtain⟨z,g1,g2,g3⟩:=zmq hi (eY (eY hq)) (h2 (eX hq)) (gF (eX (eY hq))) (h3 (eX hq)) E.w
   exact ei.value hs (by simp only[execOp,bT];exact iF g1) g2 g3
  ·simp at cW
 ·rename_i x i bT
  obtain⟨p,v,h1,h2,h3⟩:=fR hs h
  split at h1
  ·rename_i l
   split at h1
   ·rename_i w hw
    rw[jU] at h1
    simp only[Option.some.injEq] at h1
    subst h1
    have hv:=h2 hq
    simp only[VR] at hv
    obtain⟨vs,hv,kL⟩:=hv
    rw[su] at hw
    obtain⟨y,hy,hyv⟩:=kL.nth hw
    refine ei.value hs (x:=y) ?_ hyv (Q4 (h3 hq) hw)
    simp only[execOp,bT,hv]
    refine iF ?_
    simp[Instr.extract,hy]
   ·simp at h1
  ·simp at h1
 ·rename_i c bT
  split at h
  ·rename_i f hc
   obtain⟨p,v,h1,h2,h3⟩:=fR hs h
   obtain⟨p',args,cW,gF,jH⟩:=DL hs h1
   split at cW
   ·rename_i F first cap
    split at cW
    ·rename_i r w u znH
     rw[jU] at cW
     simp only[Option.some.injEq] at cW
     subst cW
     have hp:r:=hq _ (da.2 (.inr (da.2 (.inr (List.Mem.head _)))))
     exact znz hC hT hs wK bT hc (h2 (eX hq)) (h3 (eX hq)) (gF (eX (eY hq))) (jH (eX (eY hq))) znH hp
    ·simp at cW
   ·simp at cW
  ·rename_i hc
   split at h
   ·rename_i x T hx hT
    obtain⟨p,v,h1,h2,h3⟩:=fR hs h
    split at h1
    ·rename_i w hl hlen
     simp only[Option.some.injEq] at h1
     subst h1
     obtain⟨z,g1,g2,g3⟩:=zmo (ty:=o.type) hs hl hlen (h2 hq) E.w
     refine ei.value hs (x:=z) ?_ g2 (g3 us)
     have e1:c.args=#[x]:=by apply Array.ext';simpa using hx
     have e2:c.argTypes=#[T]:=by apply Array.ext';simpa using hT
     simp only[execOp,bT,resolve,hc,Sem.run_bind,Sem.run_pure,Result.andThen_ok,invoke,builtin,e1,e2,List.map_toArray,List.map_cons,List.map_nil,g1]
    ·simp at h1
   ·simp at h
  ·rename_i hc
   split at h
   ·rename_i x y T T' hx hT
    obtain⟨p,v,h1,h2,h3⟩:=fR hs h
    obtain⟨p',v',cW,gF,jH⟩:=fR hs h1
    split at cW
    ·rename_i q w u mM
     simp only[Option.some.injEq] at cW
     subst cW
     obtain⟨E',z,g1,g2,g3,g4⟩:=zm2 (ty:=o.type) hs cO mM (eY (eY hq)) (h2 (eX hq)) (gF (eX (eY hq)))
     refine ei.qL (x:=z) ?_ g2 g3 g4
     have e1:c.args=#[x,y]:=by apply Array.ext';simpa using hx
     have e2:c.argTypes=#[T,T']:=by apply Array.ext';simpa using hT
     simp only[execOp,bT,resolve,hc,Sem.run_bind,Sem.run_pure,Result.andThen_ok,invoke,builtin,e1,e2,List.map_toArray,List.map_cons,List.map_nil,g1]
    ·simp at cW
   ·simp at h
  ·rename_i hc
   obtain⟨p,l,h1,h2,h3⟩:=DL hs h
   split at h1
   ·rename_i v r
    split at h1
    ·rename_i w hw
     simp only[Option.some.injEq] at h1
     subst h1
     have hv:=h2 hq
     simp only[aR] at hv
     obtain⟨u,gG,hl,hu,yt⟩:=hv
     obtain⟨z,g1,g2,g3⟩:=Y8 (P:=P) E.w hw hu yt
     have HG:w.nm us:=by
      have:∀ (l:List AV) (v r:AV),oV true v l=some r->v.nm us->r.nm us:=by
       intro l
       induction l with
       | nil=>
            intro v r h hn;have:some v=some r:=by cases v<;>simpa [oV] using h
            exact (Option.some.inj this)▸hn
       | cons x l ih=>intro v r h hn;cases v<;>cases x<;>simp only[oV,reduceCtorEq] at h;exact ih _ _ h (by simp[AV.nm])
      exact this _ _ _ hw (h3 hq).1
     refine ei.value hs (x:=z) ?_ g2 HG
     have e1:c.args.map a.eval=(u::gG).toArray:=by apply Array.ext';simpa using hl
     simp only[execOp,bT,resolve,hc,Sem.run_bind,Sem.run_pure,Result.andThen_ok,invoke,builtin,Builtin.max_,e1,g1]
    ·simp at h1
   ·simp at h1
  ·rename_i hc
   obtain⟨p,l,h1,h2,h3⟩:=DL hs h
   split at h1
   ·rename_i v r
    split at h1
    ·rename_i w hw
     simp only[Option.some.injEq] at h1
     subst h1
     have hv:=h2 hq
     simp only[aR] at hv
     obtain⟨u,gG,hl,hu,yt⟩:=hv
     obtain⟨z,g1,g2,g3⟩:=Y9 (P:=P) E.w hw hu yt
     have HG:w.nm us:=by
      have:∀ (l:List AV) (v r:AV),oV false v l=some r->v.nm us->r.nm us:=by
       intro l
       induction l with
       | nil=>
            intro v r h hn;have:some v=some r:=by cases v<;>simpa [oV] using h
            exact (Option.some.inj this)▸hn
       | cons x l ih=>intro v r h hn;cases v<;>cases x<;>simp only[oV,reduceCtorEq] at h;exact ih _ _ h (by simp[AV.nm])
      exact this _ _ _ hw (h3 hq).1
     refine ei.value hs (x:=z) ?_ g2 HG
     have e1:c.args.map a.eval=(u::gG).toArray:=by apply Array.ext';simpa using hl
     simp only[execOp,bT,resolve,hc,Sem.run_bind,Sem.run_pure,Result.andThen_ok,invoke,builtin,Builtin.min_,e1,g1]
    ·simp at h1
   ·simp at h1
  ·rename_i hc
   split at h
   ·rename_i x y T T' hx hT
    obtain⟨p,v,h1,h2,h3⟩:=fR hs h
    obtain⟨p',v',cW,gF,jH⟩:=fR hs h1
    split at cW
    ·rename_i q w u mM
     simp only[Option.some.injEq] at cW
     subst cW
     obtain⟨E',z,g1,g2,g3,g4⟩:=zm5 (ty:=o.type) (T':=T') (nm:=nm) hs mM (eY (eY hq)) (h2 (eX hq)) (gF (eX (eY hq)))
     refine ei.qL (x:=z) ?_ g2 g3 g4
     have e1:c.args=#[x,y]:=by apply Array.ext';simpa using hx
     have e2:c.argTypes=#[T,T']:=by apply Array.ext';simpa using hT
     simp only[execOp,bT,resolve,hc,Sem.run_bind,Sem.run_pure,Result.andThen_ok,invoke,builtin,e1,e2,List.map_toArray,List.map_cons,List.map_nil,g1]
    ·simp at cW
   ·simp at h
  ·simp at h
 ·simp at h
end
theorem HQ(n:Nat):∀ l:List AV,AV.dK n l=true ↔ ∃ a∈l,AV.has n a=true
 | []=>by simp[AV.dK]
 | a::l=>by simp[AV.dK,HQ n l]
theorem RB(tm:Nat->Option AV)(n:Nat):∀ l:List Operand,AV.dK n (ir tm l)=true ↔ ∃ x∈l,AV.has n (fc tm x)=true
 | []=>by simp[ir,AV.dK]
 | x::l=>by simp[ir,AV.dK,RB tm n l]
section
variable {tm iq:Nat->Option AV} {ob ob':Nat->Option AO}
theorem fJ{α:Type}{x:Operand}{k k':List Prop->AV->Option α}(hx:fc tm x=fc iq x)(h:∀ p v,(∀ n,v.has n=true->(fc tm x).has n=true)->k p v=k' p v):fe tm x k=fe iq x k':=by
 unfold fe
 rw[<-hx]
 split
 ·rename_i g v hv
  rw[jU,jU]
  exact h _ _ fun n hn=>by rw[hv];simpa [AV.has] using hn
 ·rw[jU,jU]
  exact h _ _ fun n hn=>hn
theorem Eb{α:Type}:∀ {xs:List Operand} {k k':List Prop->List AV->Option α},(∀ x∈xs,fc tm x=fc iq x)->(∀ p vs,(∀ n,AV.dK n vs=true->∃ x∈xs,(fc tm x).has n=true)->k p vs=k' p vs)->pS tm xs k=pS iq xs k'
 | [],k,k',_,h=>h _ _ (by simp[AV.dK])
 | x::xs,k,k',hx,h=>by
  simp only[pS]
  refine fJ (hx x (by simp)) fun p v hv=>Eb (fun y hy=>hx y (by simp[hy])) fun q vs eZ=>h _ _ fun n hn=>?_
  simp only[AV.dK,Bool.or_eq_true] at hn
  rcases hn with hn | hn
  ·exact⟨x,by simp,hv n hn⟩
  ·obtain⟨y,hy,Rq⟩:=eZ n hn
   exact⟨y,by simp[hy],Rq⟩
theorem RC{α:Type}:∀ {xs:List (Nat×Operand)} {k:List Prop->List (Nat×AV)->Option α},(∀ x∈xs,fc tm x.2=fc iq x.2)->sd tm xs k=sd iq xs k
 | [],k,_=>rfl
 | (i,x)::xs,k,hx=>by
  simp only[sd]
  exact fJ (hx (i,x) (by simp)) fun p v _=>RC (fun y hy=>hx y (by simp[hy]))
theorem RD{α:Type}{x:Option Operand}{d:Int}{k:List Prop->Int->Option α}(hx:∀ o,x=some o->fc tm o=fc iq o):gn tm x d k=gn iq x d k:=by
 unfold gn
 cases x with
 | none=>rfl
 | some o=>exact fJ (hx o rfl) fun p v _=>rfl
theorem znI{n:Nat}(h:ob n=ob' n):np ob n=np ob' n:=by simp[np,h]
theorem Ec{v:AV}(h:∀ n,v.has n=true->ob n=ob' n):pT ob v=pT ob' v:=by
 unfold pT
 split<;>first | rfl | exact znI (h _ (by simp[AV.has,eV]))
theorem znJ{P:Program}{T:TypeId}{v:AV}(h:∀ n,v.has n=true->ob n=ob' n):Ak P T ob v=Ak P T ob' v:=by
 unfold Ak
 cases v<;>try rfl
 case ptr n off=>have e:=h n (by simp[AV.has,eV]);simp only[e]
 case epr n s i off=>have e:=h n (by simp[AV.has,eV]);simp only[e]
 case cpr n off i m=>have e:=h n (by simp[AV.has,eV]);simp only[e]
theorem Zv{P:Program}{T:TypeId}{v y:AV}(h:∀ n,v.has n=true->ob n=ob' n):Al P T ob v y=Al P T ob' v y:=by
 unfold Al
 cases v<;>try rfl
 case ptr n off=>have e:=h n (by simp[AV.has,eV]);simp only[e]
 case epr n s i off=>have e:=h n (by simp[AV.has,eV]);simp only[e]
 case cpr n off i m=>have e:=h n (by simp[AV.has,eV]);simp only[e]
theorem M8{e:Sh}{v:AV}(h:∀ n,v.has n=true->ob n=ob' n):uT ob e v=uT ob' e v:=by
 unfold uT
 cases v<;>try rfl
 case rsl n s off len=>have e:=h n (by simp[AV.has,eV]);simp only[e]
 case own n s=>have e:=h n (by simp[AV.has,eV]);simp only[e]
 case csl n off len=>have e:=h n (by simp[AV.has,eV]);simp only[e]
 case wsl n s i a m t off len=>have e:=h n (by simp[AV.has,eV]);simp only[e]
theorem znK{P:Program}{T:TypeId}{v y:AV}(h:∀ n,v.has n=true->ob n=ob' n):Dr P T ob v y=Dr P T ob' v y:=by
 unfold Dr
 cases v<;>try rfl
 case epr n s i off=>have e:=h n (by simp[AV.has,eV]);simp only[e]
theorem znL{P:Program}{T:TypeId}{c:Bool}{v y:AV}(h:∀ n,v.has n=true->ob n=ob' n):DC P T c ob v y=DC P T c ob' v y:=by
 unfold DC
 cases v<;>try rfl
 case mpr n=>
  have e:=h n (by simp[AV.has,eV])
  cases y<;>first
   | rfl
   | (simp only[e])
theorem znM{P:Program}{T:TypeId}{v y z:AV}(h:∀ n,v.has n=true->ob n=ob' n):DD P T ob v y z=DD P T ob' v y z:=by
 unfold DD
 cases v<;>try rfl
 case mpr n=>
  have e:=h n (by simp[AV.has,eV])
  cases y<;>first
   | rfl
   | (simp only[e])
theorem znN{P:Program}{op:BinOp}{T:TypeId}{y:Operand}{v:AV}(h:∀ n,v.has n=true->ob n=ob' n):DA P op T ob y v=DA P op T ob' y v:=by
 unfold DA
 cases v<;>try rfl
 case ptr n off=>have e:=h n (by simp[AV.has,eV]);simp only[np,e]
theorem znO{P:Program}{src dst:TypeId}{nm:Nat}{v:AV}(h:∀ n,v.has n=true->ob n=ob' n):Dt P src dst ob nm v=Dt P src dst ob' nm v:=by
 unfold Dt
 simp only[M8 (e:=.int .u8) h]
theorem znP{P:Program}{T:TypeId}{e:Sh}{v:AV}(h:∀ n,v.has n=true->ob n=ob' n):Dv P T ob e v=Dv P T ob' e v:=by
 unfold Dv
 simp only[M8 (e:=e) h]
theorem znQ{P:Program}{T T':TypeId}{nm:Nat}{v y:AV}(h:∀ n,v.has n=true->ob n=ob' n)(hy:∀ n,y.has n=true->ob n=ob' n):Dw P T T' ob nm v y=Dw P T T' ob' nm v y:=by
 unfold Dw
 simp only[znP (P:=P) (T:=T') hy]
 cases v<;>try rfl
 case rsl n s off len=>have e:=h n (by simp[AV.has,eV]);simp only[e]
 case own n s=>have e:=h n (by simp[AV.has,eV]);simp only[e]
theorem znR{P:Program}{T:TypeId}{v:AV}{lo hi mx:Option Operand}{nm:Nat}(h:∀ o,lo=some o\/hi=some o\/mx=some o->fc tm o=fc iq o)(hv:∀ n,v.has n=true->ob n=ob' n):Du P T tm ob v lo hi mx nm=Du P T iq ob' v lo hi mx nm:=by
 have jF:∀ {α:Type} (d:Int) (k:List Prop->Int->Option α),gn tm lo d k=gn iq lo d k:=fun d k=>RD fun o ho=>h o (.inl ho)
 have D4:∀ {α:Type} (d:Int) (k:List Prop->Int->Option α),gn tm hi d k=gn iq hi d k:=fun d k=>RD fun o ho=>h o (.inr (.inl ho))
 have hmx:∀ {α:Type} (d:Int) (k:List Prop->Int->Option α),gn tm mx d k=gn iq mx d k:=fun d k=>RD fun o ho=>h o (.inr (.inr ho))
 unfold Du
 cases mx with
 | none=>
  simp only[jF,D4]
  cases v<;>try rfl
  case own n s=>have e:=hv n (by simp[AV.has,eV]);simp only[e]
 | some m=>
  cases hi with
  | none=>rfl
  | some hh=>simp only[jF,D4,hmx]
theorem znT{P:Program}{T:TypeId}{v y:AV}(h:∀ n,v.has n=true->ob n=ob' n)(hy:∀ n,y.has n=true->ob n=ob' n):Dx P T ob v y=Dx P T ob' v y:=by
 unfold Dx
 cases v<;>try rfl
 case rsl n s off len=>have e:=h n (by simp[AV.has,eV]);simp only[e,M8 hy]
 case wsl n s i a m t off len=>have e:=h n (by simp[AV.has,eV]);simp only[e,M8 hy]
theorem Zw{v:AV}(h:∀ n,v.has n=true->ob n=ob' n):x7 ob v=x7 ob' v/\wo ob v=wo ob' v:=by
 unfold x7 wo
 cases v<;>try exact⟨rfl,rfl⟩
 case own n s=>have e:=h n (by simp[AV.has,eV]);simp only[e,and_self]
theorem Zx:∀ {l:List AV},(∀ n,AV.dK n l=true->ob n=ob' n)->uU ob l=uU ob' l/\uV ob l=uV ob' l
 | [],_=>⟨rfl,rfl⟩
 | v::l,h=>by
  obtain⟨a1,a2⟩:=Zw (ob:=ob) (ob':=ob') (v:=v) fun n hn=>h n (by simp[AV.dK,hn])
  obtain⟨b1,b2⟩:=Zx (l:=l) fun n hn=>h n (by simp[AV.dK,hn])
  simp only[uU,uV,a1,a2,b1,b2,and_self]
theorem Zy{v:AV}(h:∀ n,v.has n=true->ob n=ob' n):x8 ob v=x8 ob' v/\sf ob v=sf ob' v:=by
 unfold x8 sf
 split
 ·rename_i l
  obtain⟨e1,e2⟩:=Zx (ob:=ob) (ob':=ob') (l:=l) fun n hn=>h n (by simpa [AV.has] using hn)
  exact⟨by rw[e1],e2⟩
 ·exact Zw h
theorem Zz:∀ {l:List (Nat×AV)},(∀ (n:Nat) (v:Nat×AV),v∈l->v.2.has n=true->ob n=ob' n)->uW ob l=uW ob' l/\uX ob l=uX ob' l
 | [],_=>⟨rfl,rfl⟩
 | (i,v)::l,h=>by
  obtain⟨a1,a2⟩:=Zy (ob:=ob) (ob':=ob') (v:=v) fun n hn=>h n (i,v) (by simp) hn
  obtain⟨b1,b2⟩:=Zz (l:=l) fun n w hw hn=>h n w (by simp[hw]) hn
  simp only[uW,uX,a1,a2,b1,b2,and_self]
theorem ZA{α:Type}:∀ {xs:List (Nat×Operand)} {k k':List Prop->List (Nat×AV)->Option α},(∀ x∈xs,fc tm x.2=fc iq x.2)->
  (∀ p vs,(∀ (n:Nat) (v:Nat×AV),v∈vs->v.2.has n=true->∃ x∈xs,(fc tm x.2).has n=true)->k p vs=k' p vs)->sd tm xs k=sd iq xs k'
 | [],k,k',_,h=>h _ _ (fun n v hv=>by simp at hv)
 | (i,x)::xs,k,k',hx,h=>by
  simp only[sd]
  refine fJ (hx (i,x) (by simp)) fun p v hv=>ZA (fun y hy=>hx y (by simp[hy])) fun q vs eZ=>h _ _ fun n w hw hn=>?_
  rcases List.mem_cons.1 hw with rfl | hw
  ·exact⟨(i,x),by simp,hv n hn⟩
  ·obtain⟨y,hy,hyn⟩:=eZ n w hw hn
   exact⟨y,by simp[hy],hyn⟩
theorem znV{P:Program}{T:TypeId}{v:AV}(h:∀ n,v.has n=true->ob n=ob' n):Dy P T ob v=Dy P T ob' v:=by
 unfold Dy
 cases v<;>try rfl
 case own n s=>have e:=h n (by simp[AV.has,eV]);simp only[e]
theorem znW{P:Program}{T:TypeId}{uS:Bool}{v i:AV}(h:∀ n,v.has n=true->ob n=ob' n):Dj P T uS ob v i=Dj P T uS ob' v i:=by
 unfold Dj
 cases v<;>try rfl
 case own n s=>have e:=h n (by simp[AV.has,eV]);simp only[e]
theorem znX{T:TypeId}{v:AV}(h:∀ n,v.has n=true->ob n=ob' n):DB ob T v=DB ob' T v:=by
 unfold DB
 cases v<;>try rfl
 case ptr n off=>have e:=h n (by simp[AV.has,eV]);simp only[e]
theorem yw{n:Nat}:∀ {l m:List Nat},dG n (bQ l m)=(dG n l||dG n m)
 | [],m=>by simp[bQ,dG]
 | a::l,m=>by
  simp only[bQ,dG]
  cases Nat.beq n a<;>simp[yw]
mutual
theorem HR{n:Nat}:∀ a:AV,dG n (AV.pV a)=AV.has n a
 | .ptr _ _ | .rsl _ _ _ _ | .epr _ _ _ _ | .csl _ _ _ | .own _ _ | .cpr _ _ _ _ | .wsl _ _ _ _ _ _ _ _ | .mpr _=>by
  simp only[AV.pV,AV.has,dG]
  split<;>simp_all
 | .fn _ x y=>by simp only[AV.pV,AV.has,yw,Ed x,Ed y]
 | .ifc _ a=>by simp only[AV.pV,AV.has,HR a]
 | .agg l=>by simp only[AV.pV,AV.has,Ed l]
 | .fG l=>by simp only[AV.pV,AV.has,Ed l]
 | .when _ a=>by simp only[AV.pV,AV.has,HR a]
 | .ite _ a b=>by simp only[AV.pV,AV.has,yw,HR a,HR b]
 | .mG | .pQ | .int _ _ | .bool _ | .str _ | .jS | .nilsl | .nilif | .nV | .fsl _ _ | .dq _ _ _ | .arr _ _ | .er _=>by simp[AV.pV,AV.has,dG]
theorem Ed{n:Nat}:∀ l:List AV,dG n (AV.sk l)=AV.dK n l
 | []=>by simp[AV.sk,AV.dK,dG]
 | a::l=>by simp only[AV.sk,AV.dK,yw,HR a,Ed l]
end
theorem ZB{n:Nat}:∀ {l m:List AV},AV.dK n (bQ l m)=(AV.dK n l||AV.dK n m)
 | [],m=>by simp[bQ,AV.dK]
 | a::l,m=>by simp only[bQ,AV.dK,ZB,Bool.or_assoc]
theorem ZC{n:Nat}:∀ {l:List Nat},AV.dK n (Ha l)=dG n l
 | []=>by simp[Ha,AV.dK,dG]
 | m::l=>by
  simp only[Ha,AV.dK,AV.has,dG,ZC]
  split<;>simp_all
theorem Ee{n:Nat}{ob:Nat->Option AO}{l:List AV}:AV.dK n (lu ob l)=(AV.dK n l||dG n (sn ob 6 (AV.sk l))):=by
 unfold lu
 rw[ZB,ZC]
theorem RE{n:Nat}{ob:Nat->Option AO}:∀ {l:List Nat},dG n (uY ob l)=true ↔ ∃ m,dG m l=true/\dG n (QW ob m)=true
 | []=>by simp[uY,dG]
 | k::l=>by
  simp only[uY,yw,Bool.or_eq_true,RE]
  constructor
  ·rintro (h | ⟨m,h1,h2⟩)
   ·exact⟨k,by simp[dG,eV],h⟩
   ·exact⟨m,by simp only[dG];split<;>first | rfl | exact h1,h2⟩
  ·rintro ⟨m,h1,h2⟩
   simp only[dG] at h1
   split at h1
   ·rename_i hb;rw[beq_true hb] at h2;exact .inl h2
   ·exact .inr ⟨m,h1,h2⟩
theorem ZD{n:Nat}{ob:Nat->Option AO}:∀ {k:Nat} {s s':List Nat},(∀ m,dG m s=true->dG m s'=true)->dG n (sn ob k s)=true->dG n (sn ob k s')=true
 | 0,s,s',h,hn=>h n hn
 | k+1,s,s',h,hn=>by
  simp only[sn,yw,Bool.or_eq_true] at hn ⊢
  rcases hn with hn | hn
  ·exact .inl (h n hn)
  ·refine .inr (ZD (fun m hm=>?_) hn)
   obtain⟨j,h1,h2⟩:=RE.1 hm
   exact RE.2 ⟨j,h j h1,h2⟩
theorem znY{n:Nat}{ob:Nat->Option AO}{l l':List AV}(h:∀ m,AV.dK m l=true->AV.dK m l'=true)(hn:AV.dK n (lu ob l)=true):AV.dK n (lu ob l')=true:=by
 rw[Ee,Bool.or_eq_true] at hn ⊢
 exact hn.imp (h n) (ZD fun m hm=>by rw[Ed] at hm ⊢;exact h m hm)
theorem ZE{ob ob':Nat->Option AO}:∀ {k:Nat} {s:List Nat},(∀ n,dG n (sn ob k s)=true->ob n=ob' n)->sn ob k s=sn ob' k s
 | 0,s,h=>rfl
 | k+1,s,h=>by
  have hf:∀ l:List Nat,(∀ n,dG n l=true->ob n=ob' n)->uY ob l=uY ob' l:=by
   intro l
   induction l with
   | nil=>intro _;rfl
   | cons a l ih=>
    intro hl
    simp only[uY,QW]
    rw[hl a (by simp[dG,eV]),ih fun n hn=>hl n (by simp only[dG];split<;>first | rfl | exact hn)]
  have h1:uY ob s=uY ob' s:=hf s fun n hn=>h n (by simp only[sn,yw,hn,Bool.true_or])
  simp only[sn]
  rw[ZE fun n hn=>h n (by simp only[sn,yw,hn,Bool.or_true]),h1]
theorem ZF{ob ob':Nat->Option AO}{l:List AV}(h:∀ n,AV.dK n (lu ob l)=true->ob n=ob' n):lu ob l=lu ob' l:=by
 unfold lu
 rw[ZE fun n hn=>h n (by rw[Ee,hn,Bool.or_true])]
theorem znZ{o:Op}{ob:Nat->Option AO}{l:List AV}{n:Nat}(h:AV.dK n l=true):AV.dK n (kI o ob l)=true:=by
 unfold kI
 split
 ·rw[Ee,h,Bool.true_or]
 ·exact h
theorem zn0{P:Program}[Tabs P]{C:Ctx}(hC:M0 P C){nm:Nat}{o:Oper}(hx:∀ x∈o.op.operands.toList,fc tm x=fc iq x)(b8:As o.op=true->∀ n,AV.dK n (kI o.op ob (ir tm o.op.operands.toList))=true->ob n=ob' n):
  mH P C tm ob nm o=mH P C iq ob' nm o:=by
 have hn:As o.op=true->∀ x∈o.op.operands.toList,∀ n,(fc tm x).has n=true->ob n=ob' n:=fun hr x hx n hn=>b8 hr n (znZ ((RB tm n _).2 ⟨x,hx,hn⟩))
 unfold mH
 cases bT:o.op<;>simp only[bT,Op.operands,As,forall_const] at hx hn ⊢
 case move x=>exact fJ (hx x (by simp)) fun p v _=>rfl
 case assign x=>exact fJ (hx x (by simp)) fun p v _=>rfl
 case pick c x y=>
  rw[hx x (by simp),hx y (by simp)]
  exact fJ (hx c (by simp)) fun p v _=>rfl
 case box T x=>exact fJ (hx x (by simp)) fun p v _=>rfl
 case build T parts=>
  have:∀ x∈parts.toList,fc tm x.2=fc iq x.2:=fun x kN=>hx x.2 (by simp;exact⟨x.1,by simpa using kN⟩)
  split
  ·exact RC this
  split
  ·exact RC this
  ·rfl
 case lookup T x j c=>
  refine fJ (hx x (by simp)) fun p v hv=>fJ (hx j (by simp)) fun p' v' ki=>?_
  rw[Ec fun n h=>hn x (by simp) n (hv n h),znL fun n h=>hn x (by simp) n (hv n h)]
 case mapUpdate T x j y=>
  refine fJ (hx x (by simp)) fun p v hv=>fJ (hx j (by simp)) fun p' v' ki=>fJ (hx y (by simp)) fun p'' Zu zF8=>?_
  rw[znM fun n h=>hn x (by simp) n (hv n h)]
 case buildSlice T n parts=>
  have:∀ x∈parts.toList,fc tm x.2=fc iq x.2:=fun x kN=>hx x.2 (by simp;exact⟨x.1,by simpa using kN⟩)
  split
  ·split
   ·refine ZA this fun p l hl=>?_
    obtain⟨e1,e2⟩:=Zz (ob:=ob) (ob':=ob') (l:=l) fun n v hv Rb=>by
     obtain⟨x,kN,RF⟩:=hl n v hv Rb
     exact hn x.2 (by simp;exact⟨x.1,by simpa using kN⟩) n RF
    rw[e1,e2]
   ·rfl
  ·rfl
 case load T x=>exact fJ (hx x (by simp)) fun p v hv=>by rw[znJ fun n h=>hn x (by simp) n (hv n h)]
 case store T x y=>
  refine fJ (hx x (by simp)) fun p v hv=>fJ (hx y (by simp)) fun p' v' ki=>?_
  rw[znK fun n h=>hn x (by simp) n (hv n h),Zv fun n h=>hn x (by simp) n (hv n h)]
  obtain⟨e1,e2⟩:=Zy (ob:=ob) (ob':=ob') (v:=v') fun n h=>hn y (by simp) n (ki n h)
  rw[e1,e2]
  rw[Zv (ob:=oW (sf ob' v') ob) (ob':=oW (sf ob' v') ob') (v:=v) fun n h=>by
   unfold oW
   split
   ·rfl
   ·exact hn x (by simp) n (hv n h)]
 case nilCheck x=>exact fJ (hx x (by simp)) fun p v hv=>by rw[Ec fun n h=>hn x (by simp) n (hv n h)]
 case binOp op T x y yT=>exact fJ (hx x (by simp)) fun p v hv=>fJ (hx y (by simp)) fun p' v' ki=>by rw[znN fun n h=>hn x (by simp) n (hv n h)]
 case unOp op T x=>exact fJ (hx x (by simp)) fun p v _=>rfl
 case convert src dst x=>exact fJ (hx x (by simp)) fun p v hv=>by rw[znO fun n h=>hn x (by simp) n (hv n h)]
 case sliceToArrayPointer arr x=>exact fJ (hx x (by simp)) fun p v _=>rfl
 case makeInterface T x=>exact fJ (hx x (by simp)) fun p v hv=>by rw[znX fun n h=>hn x (by simp) n (hv n h)]
 case makeFunc fn first cap=>
  split
  ·exact Eb (fun x kN=>hx x (by simp at kN ⊢;exact .inl kN)) fun p vs _=>Eb (fun x kN=>hx x (by simp at kN ⊢;exact .inr kN)) fun q ws _=>rfl
  ·rfl
 case makeSlice T l c=>exact fJ (hx l (by simp)) fun p v hv=>fJ (hx c (by simp)) fun p' v' ki=>rfl
 case slice T x lo hi mx=>
  refine fJ (hx x (by simp)) fun p v hv=>?_
  rw[Ec fun n h=>hn x (by simp) n (hv n h),znR (fun o ho=>hx o ?_) fun n h=>hn x (by simp) n (hv n h)]
  rcases ho with rfl | rfl | rfl<;>simp
 case fieldAddr T x f=>exact fJ (hx x (by simp)) fun p v hv=>by rw[Ec fun n h=>hn x (by simp) n (hv n h)]
 case field T x f=>exact fJ (hx x (by simp)) fun p v _=>rfl
 case indexAddr T x i=>
  refine fJ (hx x (by simp)) fun p v hv=>fJ (hx i (by simp)) fun p' v' ki=>?_
  rw[Ec fun n h=>hn x (by simp) n (hv n h),znW fun n h=>hn x (by simp) n (hv n h)]
 case index T x i=>exact fJ (hx x (by simp)) fun p v hv=>fJ (hx i (by simp)) fun p' v' ki=>rfl
 case extract x i=>exact fJ (hx x (by simp)) fun p v _=>rfl
 case call c=>
  split
  ·rename_i f hc
   simp only[Call.operands,hc] at hx hn
   refine fJ (hx f (by simp)) fun p v hv=>Eb (fun x kN=>hx x (by simp at kN ⊢;exact .inr kN)) fun q vs eZ=>?_
   split
   ·rename_i F first cap
    rw[hC.M1 F _ ob ob' nm fun n h=>?_]
    have n9:∀ m,AV.dK m (bQ first (bQ vs cap))=true->∃ x∈o.op.operands.toList,(fc tm x).has m=true:=by
     intro m h
     rw[bT]
     simp only[Op.operands,Call.operands,hc]
     rw[iC,iC] at h
     obtain⟨b,hb,RG⟩:=(HQ m _).1 h
     rcases List.mem_append.1 hb with hb | hb
     ·exact⟨f,by simp,hv m (by simp only[AV.has,Bool.or_eq_true];exact .inl ((HQ m _).2 ⟨b,hb,RG⟩))⟩
     ·rcases List.mem_append.1 hb with hb | hb
      ·obtain⟨x,kN,RF⟩:=eZ m ((HQ m _).2 ⟨b,hb,RG⟩)
       exact⟨x,by simp at kN ⊢;exact .inr kN,RF⟩
      ·exact⟨f,by simp,hv m (by simp only[AV.has,Bool.or_eq_true];exact .inr ((HQ m _).2 ⟨b,hb,RG⟩))⟩
    refine b8 (by rw[bT];rfl) n ?_
    have sD:kI o.op ob (ir tm o.op.operands.toList)=lu ob (ir tm o.op.operands.toList):=by rw[bT];rfl
    rw[sD]
    exact znY (fun m hm=>(RB tm m _).2 (n9 m hm)) h
   ·rfl
  ·rename_i hc
   simp only[Call.operands,hc] at hx hn
   split
   ·rename_i x T hl _
    refine fJ (hx x (by simp[hl])) fun p v hv=>?_
    rw[Ec fun n h=>hn x (by simp[hl]) n (hv n h),znV fun n h=>hn x (by simp[hl]) n (hv n h)]
   ·rfl
  ·rename_i hc
   simp only[Call.operands,hc] at hx hn
   split
   ·rename_i x y T T' hl _
    refine fJ (hx x (by simp[hl])) fun p v hv=>fJ (hx y (by simp[hl])) fun p' v' ki=>?_
    rw[znQ (fun n h=>hn x (by simp[hl]) n (hv n h)) (fun n h=>hn y (by simp[hl]) n (ki n h))]
   ·rfl
  ·rename_i hc
   simp only[Call.operands,hc] at hx hn
   exact Eb (fun x kN=>hx x (by simpa using kN)) fun p vs _=>rfl
  ·rename_i hc
   simp only[Call.operands,hc] at hx hn
   exact Eb (fun x kN=>hx x (by simpa using kN)) fun p vs _=>rfl
  ·rename_i hc
   simp only[Call.operands,hc] at hx hn
   split
   ·rename_i x y T T' hl _
    refine fJ (hx x (by simp[hl])) fun p v hv=>fJ (hx y (by simp[hl])) fun p' v' ki=>?_
    rw[znT (fun n h=>hn x (by simp[hl]) n (hv n h)) (fun n h=>hn y (by simp[hl]) n (ki n h))]
   ·rfl
  ·rfl
end
end Go.Tr
