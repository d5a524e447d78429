/- States behind acts: their bytes, and what is read of bytes. Conditions: none but the rows' bounds. -/
import Derived.Test.YtploofmfghjijaaGreatBD
import Derived.Test.YtploofmfghjijaaGreatBE
import Derived.Test.YtploofmfghjijaaGreatMacD
import Derived.Test.YtploofmfghjijaaGreatCodec1D
import Derived.Test.YtploofmfghjijaaGreatCodecR
import Derived.Test.YtploofmfghjijaaGreatCodecS
import Derived.Test.YtploofmfghjijaaGreatOpsKc
import Derived.Test.YtploofmfghjijaaGreatCodecT
namespace Go.Tr
open Go
set_option linter.unusedVariables false
set_option maxRecDepth 100000
end Go.Tr
namespace Go.Tr
open Go
set_option linter.unusedVariables false
set_option linter.unusedSimpArgs false
set_option maxRecDepth 100000
set_option maxHeartbeats 4000000
theorem L6{e:cw}{r:bV}(h:(qw e r).2=true):qw e r=(e,true)/\r.2=false/\r.1=[]/\xA e=true:=by
 unfold qw at h ⊢
 split at h
 ·rename_i hc;rw[if_pos hc];exact⟨rfl,hc⟩
 ·simp at h
theorem zEL(n:Int)(h:ig n):-9223372036854775808<=n/\n<=9223372036854775807:=by
 obtain⟨h1,h2⟩:=h;omega
theorem zEM{l:List Int}(h:bN l):iZ (zG l):=⟨mw h 0,mw h 1,mw h 2,mw h 3,mw h 4,mw h 5⟩
theorem z32:cd 0:=by unfold cd;decide
theorem zEN{b:List Int}(hb:bN b)(h:(eS b).2=true):rR (eS b).1/\cS (eS b).1=b/\xA (eS b).1=true:=by
 have PD:=(Gf (r:=(b,false)) hb).1
 have hr:=kp 1 (r:=(b,false)) hb
 have e1:=num_1 (r:=(b,false)) hb
 have i64:=zEL _ PD
 unfold eS at h ⊢
 simp only at h ⊢
 generalize hw:cQ 1 (b,false)=w at h PD e1 i64 ⊢
 have fin:∀ {r:bV},(bE 1 (b,false)).2.2=false->b=[w % 256]++(bE 1 (b,false)).2.1:=fun {r} hf=>by
  have:=(uC hf).2
  rw[e1];exact this
 generalize hq:(bE 1 (b,false)).2=q at h hr fin ⊢
 by_cases h1:w=1
 ·rw[if_pos h1] at h ⊢
  obtain⟨g1,g2,g3,g4⟩:=L6 h
  rw[g1]
  have hf:=zkt.eq q hr g2
  have hh:=zkp hr
  have hlen:(gu q).1.2.1.length<=255:=by
   show (pU (bE (cQ 1 (bE 4 q).2).toNat _).1).length<=_
   have:=(Gf (kp 4 hr)).1
   obtain⟨t1,t2⟩:=this
   rw[Px,rP];omega
  have yf:=zkt.ok g2
  refine⟨⟨hh.1,by show (gu q).1.2.1.length<=_;omega,hh.2.2,z32,zD,i64⟩,?_,g4⟩
  rw[fin (r:=q) yf]
  unfold cS
  simp only
  rw[if_pos h1,hf,g3,List.append_nil]
 ·rw[if_neg h1] at h ⊢
  by_cases h3:w=3\/w=4
  ·rw[if_pos h3] at h ⊢
   obtain⟨g1,g2,g3,g4⟩:=L6 h
   rw[g1]
   have hf:=zC6 hr g2
   refine⟨⟨z32,by show (0:Nat)<=_;omega,zD,(vL hr).1,zD,i64⟩,?_,g4⟩
   rw[fin (r:=q) hf.1]
   unfold cS
   simp only
   rw[if_neg h1,if_pos h3,hf.2,g3,List.append_nil]
  ·rw[if_neg h3] at h ⊢
   by_cases h5:w=5
   ·rw[if_pos h5] at h ⊢
    obtain⟨g1,g2,g3,g4⟩:=L6 h
    rw[g1]
    have k1:=uC g2
    have k2:=uC k1.1
    have k3:=uC k2.1
    refine⟨⟨(vL hr).1,by show (0:Nat)<=_;omega,zD,z32,zEM (dj (kp 1 (kp 4 hr))).1,i64⟩,?_,g4⟩
    rw[fin (r:=q) k3.1]
    unfold cS
    simp only
    rw[if_neg h1,if_neg h3,if_pos h5,P5 hr,num_1 (kp 4 hr),zks (rP 6 _)]
    congr 1
    rw[k3.2,k2.2,k1.2,g3,List.append_nil,List.append_assoc]
   ·rw[if_neg h5] at h ⊢
    by_cases h2:w=2\/w=6\/w=7
    ·rw[if_pos h2] at h ⊢
     obtain⟨g1,g2,g3,g4⟩:=L6 h
     rw[g1]
     have k1:=uC g2
     refine⟨⟨(vL hr).1,by show (0:Nat)<=_;omega,zD,z32,zD,i64⟩,?_,g4⟩
     rw[fin (r:=q) k1.1]
     unfold cS
     simp only
     rw[if_neg h1,if_neg h3,if_neg h5,if_pos h2,P5 hr,k1.2,g3,List.append_nil]
    ·rw[if_neg h2] at h ⊢
     obtain⟨g1,g2,g3,g4⟩:=L6 h
     rw[g1]
     refine⟨⟨z32,by show (0:Nat)<=_;omega,zD,z32,zD,i64⟩,?_,g4⟩
     rw[fin (r:=q) g2]
     unfold cS
     simp only
     rw[if_neg h1,if_neg h3,if_neg h5,if_neg h2,g3]
theorem qC.wf{e:cw}(h:qC e):rR e:=⟨by have:=h.addr;unfold cd;omega,by have:=h.ow;omega,h.hm,h.block,h.sm,by have:=h.wh;omega⟩
theorem GU{e:cw}(h:rR e):bN (cS e):=by
 have one:∀ n:Int,bN [n % 256]:=fun n c hc=>by
  simp only[List.mem_cons,List.not_mem_nil,or_false] at hc
  subst hc;exact⟨by omega,by omega⟩
 unfold cS
 refine gv (one _) ?_
 split
 ·exact gv (gv (gv (iK _ 4) (one _)) (zjp _)) (PA h.m)
 split
 ·exact gv (iK _ 4) (one _)
 split
 ·exact gv (gv (iK _ 4) (one _)) (PA h.s)
 split
 ·exact iK _ 4
 ·exact zBz
end Go.Tr
namespace Go.Tr
open Go
set_option linter.unusedVariables false
set_option linter.unusedSimpArgs false
set_option maxRecDepth 100000
set_option maxHeartbeats 4000000
theorem zEO(s:bj)(hl:s.2.2.1.length<=1000000):UB (true,(s.2.2.1.length:Int),0,s,s,())=some (.inl (true,s,s,())):=by
 unfold UB
 refine (jL (n:=s.2.2.1.length) (fun k:Nat=>(true,(s.2.2.1.length:Int),(k:Int),s,s,())) (Nat.zero_le _) fun k _ hk=>?_).trans ?_
 ·show Kf true (s.2.2.1.length:Int) (k:Int) s s=_
  unfold Kf
  have hc:True->0<=(k:Int)/\(k:Int)<(s.2.2.1.length:Int):=fun _=>by omega
  rw[decide_eq_true (by omega),bz]
  simp only[aW,cc,aC hc,beq_self_eq_true,Bool.and_self]
  rw[bA (by omega) (by omega)];rfl
 ·refine dm ?_
  show Kf true (s.2.2.1.length:Int) (s.2.2.1.length:Int) s s=_
  unfold Kf
  rw[decide_eq_false (by omega)];rfl
theorem zEP(s:bj)(hl:s.2.2.2.1.length<=1000000):UD (true,(s.2.2.2.1.length:Int),0,s,s,())=some (.inl (true,s,s,())):=by
 unfold UD
 refine (jL (n:=s.2.2.2.1.length) (fun k:Nat=>(true,(s.2.2.2.1.length:Int),(k:Int),s,s,())) (Nat.zero_le _) fun k _ hk=>?_).trans ?_
 ·show Kg true (s.2.2.2.1.length:Int) (k:Int) s s=_
  unfold Kg
  have hc:True->0<=(k:Int)/\(k:Int)<(s.2.2.2.1.length:Int):=fun _=>by omega
  rw[decide_eq_true (by omega),bz]
  simp only[aW,cc,aC hc,beq_self_eq_true,Bool.and_self]
  rw[bA (by omega) (by omega)];rfl
 ·refine dm ?_
  show Kg true (s.2.2.2.1.length:Int) (s.2.2.2.1.length:Int) s s=_
  unfold Kg
  rw[decide_eq_false (by omega)];rfl
theorem zEQ(s:bj)(hl:s.2.2.2.2.2.1.length<=1000000):UF (true,(s.2.2.2.2.2.1.length:Int),0,s,s,())=some (.inl (true,s,s,())):=by
 unfold UF
 refine (jL (n:=s.2.2.2.2.2.1.length) (fun k:Nat=>(true,(s.2.2.2.2.2.1.length:Int),(k:Int),s,s,())) (Nat.zero_le _) fun k _ hk=>?_).trans ?_
 ·show Kh true (s.2.2.2.2.2.1.length:Int) (k:Int) s s=_
  unfold Kh
  have hc:True->0<=(k:Int)/\(k:Int)<(s.2.2.2.2.2.1.length:Int):=fun _=>by omega
  rw[decide_eq_true (by omega),bz]
  simp only[aW,cc,aC hc,beq_self_eq_true,Bool.and_self]
  rw[bA (by omega) (by omega)];rfl
 ·refine dm ?_
  show Kh true (s.2.2.2.2.2.1.length:Int) (s.2.2.2.2.2.1.length:Int) s s=_
  unfold Kh
  rw[decide_eq_false (by omega)];rfl
theorem zER(s:bj)(hl:s.2.2.2.2.2.2.length<=1000000):UH (true,(s.2.2.2.2.2.2.length:Int),0,s,s,())=some (.inl (true,s,s,())):=by
 unfold UH
 refine (jL (n:=s.2.2.2.2.2.2.length) (fun k:Nat=>(true,(s.2.2.2.2.2.2.length:Int),(k:Int),s,s,())) (Nat.zero_le _) fun k _ hk=>?_).trans ?_
 ·show Ki true (s.2.2.2.2.2.2.length:Int) (k:Int) s s=_
  unfold Ki
  have hc:True->0<=(k:Int)/\(k:Int)<(s.2.2.2.2.2.2.length:Int):=fun _=>by omega
  rw[decide_eq_true (by omega),bz]
  simp only[aW,cc,aC hc,beq_self_eq_true,Bool.and_self]
  rw[bA (by omega) (by omega)];rfl
 ·refine dm ?_
  show Ki true (s.2.2.2.2.2.2.length:Int) (s.2.2.2.2.2.2.length:Int) s s=_
  unfold Ki
  rw[decide_eq_false (by omega)];rfl
theorem zES(s:bj)(k:Nat)(hk:k<s.2.2.2.2.1.length)(hs:(s.2.2.2.2.1[k]).2.length<=1000000)(t155 t156:Int):UJ (true,(k:Int),0,t155,t156,s,s,())=some (.inl (true,t155,t156,s,s,())):=by
 have hc:True->0<=(k:Int)/\(k:Int)<(s.2.2.2.2.1.length:Int):=fun _=>by omega
 have PT:0<=(k:Int)/\(k:Int)<(s.2.2.2.2.1.length:Int):=by omega
 unfold UJ
 refine (jL (n:=(s.2.2.2.2.1[k]).2.length) (fun i:Nat=>(true,(k:Int),(i:Int),t155,t156,s,s,())) (Nat.zero_le _) fun i _ hi=>?_).trans ?_
 ·show Kj true (k:Int) (i:Int) t155 t156 s s=_
  unfold Kj
  have wQ:0<=(i:Int)/\(i:Int)<((s.2.2.2.2.1[k]).2.length:Int):=by omega
  simp only[aW,cc,aC hc,aC PT,fi,fT,fq s.2.2.2.2.1 k _ hk,Bool.true_and,beq_self_eq_true,aC wQ]
  rw[decide_eq_true (by omega),bz,bA (by omega) (by omega)];rfl
 ·refine dm ?_
  show Kj true (k:Int) ((s.2.2.2.2.1[k]).2.length:Int) t155 t156 s s=_
  unfold Kj
  simp only[aW,cc,aC hc,fi,fT,fq s.2.2.2.2.1 k _ hk,Bool.true_and]
  rw[decide_eq_false (by omega)];rfl
theorem zET(s:bj)(hl:s.2.2.2.2.1.length<=1000000)(hs:∀ x∈s.2.2.2.2.1,x.2.length<=1000000):UL (true,(s.2.2.2.2.1.length:Int),0,s,s,())=some (.inl (true,())):=by
 unfold UL
 refine (jL (n:=s.2.2.2.2.1.length) (fun k:Nat=>(true,(s.2.2.2.2.1.length:Int),(k:Int),s,s,())) (Nat.zero_le _) fun k _ hk=>?_).trans ?_
 ·show Kl true (s.2.2.2.2.1.length:Int) (k:Int) s s=_
  unfold Kl
  have hc:True->0<=(k:Int)/\(k:Int)<(s.2.2.2.2.1.length:Int):=fun _=>by omega
  rw[decide_eq_true (by omega),bz]
  simp only[aW,cc,aC hc,beq_self_eq_true,Bool.and_self]
  rw[zES s k hk (hs _ (List.getElem_mem hk)),au,dV]
  simp only
  rw[bA (by omega) (by omega)];rfl
 ·refine dm ?_
  show Kl true (s.2.2.2.2.1.length:Int) (s.2.2.2.2.1.length:Int) s s=_
  unfold Kl
  rw[decide_eq_false (by omega)];rfl
theorem C8{s:bj}(h:cF s):lF s s=some (true,()):=by
 unfold lF
 have h1:=h.hl
 have h2:=h.sw.len
 have h3:=h.kl
 have h4:=h.pr.le
 have h5:=h.cr.le
 simp only[aW,cc,dI,bne_self_eq_false,Bool.or_self,bn]
 rw[zEO s (by omega),au,dV,zEP s (by omega),au,dV,zEQ s (by omega),au,dV,zER s (by omega),au,dV,zET s (by omega) h.XD,au,dV]
end Go.Tr
namespace Go.Tr
open Go
set_option linter.unusedVariables false
set_option linter.unusedSimpArgs false
set_option maxRecDepth 100000
set_option maxHeartbeats 4000000
theorem zEU{s:bj}{e:cw}(h:(pO s e).2≠0):(pO s e).1=s:=by
 have lay:∀ {α:Type} (r:Int×α) (f:α->bj),(jB s r f).2≠0->(jB s r f).1=s:=by
  intro α r f eW
  unfold jB at eW ⊢
  split at eW
  ·exact absurd rfl eW
  ·rename_i h0;rw[if_neg h0]
 have L4:∀ (s t:bj) (a:Int) (x:aL),(lN s t a x).2≠0->(lN s t a x).1=s:=fun s t a x eW=>by
  unfold lN at eW ⊢
  split at eW
  ·exact absurd rfl eW
  ·rename_i h0;rw[if_neg h0]
 unfold pO at h ⊢
 split
 ·rename_i h1;rw[if_pos h1] at h;exact lay _ _ h
 ·rename_i h1
  rw[if_neg h1] at h
  split
  ·rename_i h2
   rw[if_pos h2] at h
   unfold uH at h ⊢
   split at h
   ·exact absurd rfl h
   ·rename_i hk;rw[if_neg hk]
  ·rename_i h2
   rw[if_neg h2] at h
   split
   ·rename_i h3;rw[if_pos h3] at h;exact lay _ _ h
   ·rename_i h3
    rw[if_neg h3] at h
    split
    ·rename_i h4;rw[if_pos h4] at h;exact lay _ _ h
    ·rename_i h4
     rw[if_neg h4] at h
     split
     ·rename_i h5
      rw[if_pos h5] at h
      unfold tA at h ⊢
      split
      ·rename_i h6
       rw[if_pos h6] at h
       split
       ·rfl
       ·rename_i l hl
        rw[hl] at h
        exact L4 _ _ _ _ h
      ·rename_i h6
       rw[if_neg h6] at h
       exact L4 _ _ _ _ h
     ·rename_i h5
      rw[if_neg h5] at h
      split
      ·rename_i h6;rw[if_pos h6] at h;exact lay _ _ h
      ·rename_i h6
       rw[if_neg h6] at h
       split
       ·rename_i h7;rw[if_pos h7] at h;exact lay _ _ h
       ·rfl
end Go.Tr
namespace Go.Tr
open Go
set_option linter.unusedVariables false
set_option linter.unusedSimpArgs false
set_option maxRecDepth 100000
set_option maxHeartbeats 4000000
def XJ(s:bj):Prop:=∀ k∈s.2.2.2.2.2.2,eN k=true->gw kK s.2.2.2.2.1 k.1=true->uF s.2.2.2.2.1 k.1<=k.2.1
def L7(xs cs:List cD):Prop:=∀ x∈xs,eN x=true->∃ y∈cs,eN y=true/\y.1=x.1/\y.2.1=x.2.1
theorem L7.refl(cs:List cD):L7 cs cs:=fun x hx ho=>⟨x,hx,ho,rfl,rfl⟩
theorem L7.nil(cs:List cD):L7 [] cs:=fun x hx=>by simp at hx
theorem XJ.sub{s t:bj}(h:XJ s)(hc:L7 t.2.2.2.2.2.2 s.2.2.2.2.2.2)(hk:∀ x∈t.2.2.2.2.2.2,eN x=true->gw kK t.2.2.2.2.1 x.1=true->gw kK s.2.2.2.2.1 x.1=true/\uF t.2.2.2.2.1 x.1=uF s.2.2.2.2.1 x.1):XJ t:=by
 intro x hx ho hh
 obtain⟨y,hy,h1,h2,h3⟩:=hc x hx ho
 obtain⟨k1,k2⟩:=hk x hx ho hh
 have:=h y hy h1 (by rw[h2];exact k1)
 rw[h2,h3] at this
 rw[k2]
 exact this
theorem zEV{f:bD}{cs:List cD}{a now:Int}{x:cD}(h:x∈(tu f cs a now).2):x∈cs\/x=CX a now:=by
 unfold tu at h
 split at h
 ·simp at h
 ·split at h
  ·simp at h
  ·split at h
   ·split at h
    ·simp at h
    ·rcases List.mem_append.1 h with h | h
     ·rcases List.mem_append.1 h with h | h
      ·exact .inl (List.take_subset _ _ h)
      ·exact .inl (List.drop_subset _ _ h)
     ·exact .inr (by simpa using h)
   ·rcases List.mem_append.1 h with h | h
    ·exact .inl h
    ·exact .inr (by simpa using h)
end Go.Tr
namespace Go.Tr
open Go
set_option linter.unusedVariables false
set_option linter.unusedSimpArgs false
set_option maxRecDepth 100000
set_option maxHeartbeats 4000000
structure gf(s:bj):Prop where
 h:∀ x∈s.2.2.1,cd x.1/\iZ x.2.2
 k:∀ x∈s.2.2.2.2.1,cd x.1/\∀ y∈x.2,iZ y.2.1
 c:∀ x∈s.2.2.2.2.2.2,cd x.1
theorem XK{cs:List cD}{a f t now:Int}{x:cD}(h:x∈(iz cs a f t now).2):∃ y∈cs,y.1=x.1:=by
 unfold iz at h
 split at h
 ·simp at h
 ·rename_i hf
  split at h
  ·obtain⟨g1,_⟩:=LU hf
   rcases List.mem_or_eq_of_mem_set h with h | rfl
   ·exact⟨x,h,rfl⟩
   ·rw[fq _ _ _ g1]
    exact⟨_,List.getElem_mem g1,rfl⟩
  ·simp at h
theorem zlx{cs:List cD}{a now:Int}{x:cD}(h:x∈(oN cs a now).2):∃ y∈cs,y.1=x.1:=by
 unfold oN at h
 split at h
 ·simp at h
 ·rename_i hf
  obtain⟨g1,_⟩:=LU hf
  rcases List.mem_or_eq_of_mem_set h with h | rfl
  ·exact⟨x,h,rfl⟩
  ·rw[fq _ _ _ g1]
   exact⟨_,List.getElem_mem g1,rfl⟩
theorem gf.cases{s:bj}(h:gf s){x:List cD}(hx:∀ z∈x,∃ y∈s.2.2.2.2.2.2,y.1=z.1):gf (z7 s x):=⟨h.h,h.k,fun z hz=>by
 obtain⟨y,hy,e⟩:=hx z hz
 rw[<-e]
 exact h.c y hy⟩
theorem gf.LX{s:bj}(h:gf s){x:List aX}(hx:∀ z∈x,z∈s.2.2.1):gf (z6 s x):=⟨fun z hz=>h.h z (hx z hz),h.k,h.c⟩
theorem zEW{c:bD}{s:bj}(h:gf s):gf (C5 c s):=⟨h.h,h.k,fun x hx=>by
 obtain⟨y,hy,rfl⟩:=List.mem_map.1 hx
 rw[XF]
 exact h.c y hy⟩
theorem zEX{c:bD}{s:bj}(h:gf s)(k:cD):gf (C0 c s k):=by
 unfold C0
 split
 ·split
  ·exact (h.LX (fun z hz=>(LZ k.1).mem hz)).cases fun z hz=>XK hz
  ·exact h.cases fun z hz=>zlx hz
 ·exact h
theorem zEY{c:bD}{s:bj}(h:gf s){k:aX}(hk:cd k.1):gf (C3 c s k):=by
 unfold C3
 split
 ·split
  ·refine⟨h.h,h.k,fun x hx=>?_⟩
   rcases zEV hx with hx | rfl
   ·exact h.c x hx
   ·exact hk
  ·exact h
 ·exact h
theorem zEZ{c:bD}{s:bj}(h:gf s):gf (Qu c s):=by
 have h1:=zEW (c:=c) h
 have h2:gf (C1 c (C5 c s)):=C2 (P:=fun t _=>gf t) _ (fun k hk t ht=>zEX ht _) _ h1
 have h3:gf (GO c (C1 c (C5 c s))):=C2 (P:=fun t _=>gf t) _ (fun k hk t ht=>zEY ht (h2.h _ (List.getElem_mem hk)).1) _ h2
 exact⟨h3.h,fun k hk=>h3.k k (List.mem_filter.1 hk).1,h3.c⟩
theorem zly{s:bj}(h:gf s)(a:Int):gf (Ac s a):=by
 unfold Ac
 split
 ·exact h.cases fun z hz=>zlx hz
 ·exact h
theorem zE0{l:List ep}(hr:gh kK l){a:Int}{x:aL}{k:ep}(hk:k∈(oO l a x).2):k∈l\/(∃ y∈l,k.1=y.1/\k.2=xO y.2 x)\/k=(a,[x]):=by
 unfold oO at hk
 split at hk
 ·simp at hk
 ·split at hk
  ·simp at hk
  ·split at hk
   ·simp at hk
   ·simp only at hk
    split at hk
    ·rename_i hh
     obtain⟨g1,g2⟩:=hr.at hh
     rcases List.mem_or_eq_of_mem_set hk with hk | rfl
     ·exact .inl hk
     ·rw[fq _ _ _ g1]
      exact .inr (.inl ⟨_,List.getElem_mem g1,rfl,rfl⟩)
    ·rcases Qn hk with hk | rfl
     ·exact .inl hk
     ·exact .inr (.inr rfl)
theorem zlz{s t:bj}(h:gf s)(ht:gf t)(hr:gh kK t.2.2.2.2.1){a:Int}(ha:cd a){x:aL}(hx:iZ x.2.1):gf (lN s t a x).1:=by
 unfold lN
 split
 ·refine zly (s:=GM t (oO t.2.2.2.2.1 a x).2) ⟨ht.h,fun k hk=>?_,ht.c⟩ a
  rcases zE0 hr hk with hk | ⟨y,hy,e1,e2⟩ | rfl
  ·exact ht.k k hk
  ·rw[e1,e2]
   refine⟨(ht.k y hy).1,fun z hz=>?_⟩
   have lx:z∈y.2++[x]:=List.drop_subset _ _ hz
   rcases List.mem_append.1 lx with lx | lx
   ·exact (ht.k y hy).2 z lx
   ·have:z=x:=by simpa using lx
    rw[this];exact hx
  ·exact⟨ha,fun z hz=>by
    have:z=x:=by simpa using hz
    rw[this];exact hx⟩
 ·exact h
theorem GV{c:bD}{s:bj}(hs:cF s)(h:gf s){e:cw}(ha:cd e.2.1.1)(hm:iZ e.2.1.2.2)(hx:iZ e.2.2.2.2.1):gf (du c s e).1:=by
 unfold du
 split
 ·have hk:=zEG (c:=c) (s:=Qu c s)
  have ht:=zEZ (c:=c) h
  show gf (pN c (Qu c s)).1
  exact⟨by rw[hk.2.2.1];exact ht.h,by rw[hk.1];exact ht.k,by rw[hk.2.2.2];exact ht.c⟩
 ·unfold pO
  split
  ·unfold jB
   split
   ·rename_i h0
    refine⟨fun z hz=>?_,h.k,h.c⟩
    have lx:z∈(xN s.2.2.1 e.2.1).2:=hz
    unfold xN at lx
    split at lx
    ·simp at lx
    ·split at lx
     ·simp at lx
     ·split at lx
      ·simp at lx
      ·rcases Qn lx with lx | rfl
       ·exact h.h z lx
       ·exact⟨ha,hm⟩
   ·exact h
  ·split
   ·unfold uH
    split
    ·exact zly (h.LX fun z hz=>(LZ e.2.1.1).mem hz) _
    ·exact h
   ·split
    ·unfold jB
     split
     ·exact⟨h.h,h.k,h.c⟩
     ·exact h
    ·split
     ·unfold jB
      split
      ·exact⟨h.h,h.k,h.c⟩
      ·exact h
     ·split
      ·unfold tA
       split
       ·split
        ·exact h
        ·rename_i l hl
         exact zlz h (t:=tv s l) ⟨h.h,h.k,h.c⟩ hs.kr ha Qt
       ·exact zlz h h hs.kr ha hx
      ·split
       ·unfold jB
        split
        ·exact h.cases fun z hz=>XK hz
        ·exact h
       ·split
        ·unfold jB
         split
         ·exact h.cases fun z hz=>XK hz
         ·exact h
        ·exact h
theorem zlA:gf fU:=⟨by simp[fU],by simp[fU],by simp[fU]⟩
theorem cF.ok{s:bj}(h:cF s)(hw:gf s):CP s:=by
 refine⟨fun x hx=>⟨(hw.h x hx).1,?_,(hw.h x hx).2⟩,by have:=h.hl;omega,fun x hx=>(h.sw.all x hx).1,by have:=h.sw.len;omega,fun x hx=>⟨(hw.k x hx).1,?_,(hw.k x hx).2⟩,by have:=h.kl;omega,fun x hx=>(h.pr.ok x hx).1,by have:=h.pr.le;omega,hw.c,by have:=h.cr.le;omega⟩
 ·have:=h.hm x hx
  unfold rQ at this
  simp only[Bool.and_eq_true,decide_eq_true_eq] at this
  omega
 ·have:=(h.ks x hx).le;omega
theorem cF.bd{s:bj}(h:cF s):Xf s:=⟨fun x hx y hy=>by
 have:=((h.ks x hx).ok y hy).2
 have:=h.now
 omega⟩
theorem cF.back{s:bj}(h:cF s)(hw:gf s):gj (fg s)=(s,true):=zC3 (h.ok hw) h.bd h.qA
theorem cF.zE1{s:bj}(h:cF s):(fg s).length<=16384:=by
 have l6:∀ m:cH,(nR m).length=6:=fun m=>rfl
 have a1:(s.2.2.1.flatMap gP).length<=s.2.2.1.length*19:=lj fun x hx=>by
  have:=h.hm x hx
  unfold rQ at this
  simp only[Bool.and_eq_true,decide_eq_true_eq] at this
  unfold gP
  simp only[List.length_append,cU,l6,List.length_singleton]
  have:(ofBytes x.2.1).length=x.2.1.length:=by simp[ofBytes]
  omega
 have a2:(s.2.2.2.1.flatMap kB).length<=s.2.2.2.1.length*15:=lj fun x hx=>by
  unfold kB
  simp only[List.length_append,cU,List.length_singleton]
  omega
 have a3:(s.2.2.2.2.1.flatMap kC).length<=s.2.2.2.2.1.length*126:=lj fun x hx=>by
  have:=(h.ks x hx).le
  have hh:(x.2.flatMap lh).length<=x.2.length*15:=lj fun y hy=>by
   unfold lh
   simp only[List.length_append,cU,l6,List.length_singleton]
   omega
  unfold kC
  simp only[List.length_append,cU,List.length_singleton]
  omega
 have a4:(s.2.2.2.2.2.1.flatMap kD).length<=s.2.2.2.2.2.1.length*15:=lj fun x hx=>by
  unfold kD
  simp only[List.length_append,cU,List.length_singleton]
  omega
 have a5:(s.2.2.2.2.2.2.flatMap mz).length<=s.2.2.2.2.2.2.length*21:=lj fun x hx=>by
  unfold mz
  simp only[List.length_append,cU,List.length_singleton]
  omega
 have b1:=h.hl
 have b2:=h.sw.len
 have b3:=h.kl
 have b4:=h.pr.le
 have b5:=h.cr.le
 unfold fg gC
 simp only[List.length_append,cU]
 omega
end Go.Tr
namespace Go.Tr
open Go
set_option linter.unusedVariables false
set_option linter.unusedSimpArgs false
set_option maxRecDepth 100000
set_option maxHeartbeats 4000000
end Go.Tr
namespace Go.Tr
open Go
set_option linter.unusedVariables false
set_option linter.unusedSimpArgs false
set_option maxRecDepth 100000
set_option maxHeartbeats 4000000
end Go.Tr
