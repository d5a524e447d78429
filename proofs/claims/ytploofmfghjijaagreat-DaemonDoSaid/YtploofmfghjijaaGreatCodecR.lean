/- What is read of bytes has these bytes. Conditions: none but that bytes are bytes. -/
import Derived.Test.YtploofmfghjijaaGreatBD
import Derived.Test.YtploofmfghjijaaGreatBE
import Derived.Test.YtploofmfghjijaaGreatMacD
import Derived.Test.YtploofmfghjijaaGreatCodec1D
import Derived.Test.YtploofmfghjijaaGreatCodec2D
import Derived.Test.YtploofmfghjijaaGreatOpsD
import Derived.Test.YtploofmfghjijaaGreatSweepD
import Derived.Test.YtploofmfghjijaaGreatSweep2D
import Derived.Test.YtploofmfghjijaaGreatCodecT
namespace Go.Tr
open Go
set_option linter.unusedVariables false
set_option maxRecDepth 100000
end Go.Tr
namespace Go.Tr
open Go
set_option linter.unusedVariables false
set_option linter.unusedSimpArgs false
set_option maxRecDepth 100000
set_option maxHeartbeats 4000000
end Go.Tr
namespace Go.Tr
open Go
set_option linter.unusedVariables false
set_option linter.unusedSimpArgs false
set_option maxRecDepth 100000
set_option maxHeartbeats 4000000
structure Xk{α:Type}(part:bV->α×bV)(g:α->List Int):Prop where
 keep:∀ r,bN r.1->bN (part r).2.1
 flag:∀ r,r.2=true->(part r).2.2=true
 eq:∀ r,bN r.1->(part r).2.2=false->r.1=g (part r).1++(part r).2.1
theorem P4(n:Nat){r:bV}(h:r.2=true):(bE n r).2.2=true:=by
 unfold bE
 rw[if_pos (.inl h)]
theorem uC{n:Nat}{r:bV}(h:(bE n r).2.2=false):r.2=false/\r.1=(bE n r).1++(bE n r).2.1:=by
 unfold bE at h ⊢
 split at h
 ·simp at h
 ·rename_i hn
  rw[if_neg hn]
  refine⟨?_,(List.take_append_drop n r.1).symm⟩
  cases hr:r.2 with
  | false=>rfl
  | true=>exact absurd (.inl hr) hn
theorem zC4{l:List Int}(hl:l.length=1)(hb:bN l):[IntKind.i64.wrap (de l) % 256]=l:=by
 rcases l with _ | ⟨a,_ | ⟨b,l⟩⟩
 ·simp at hl
 ·have ha:=hb a (by simp)
  obtain⟨a0,a1⟩:=ha
  simp only[de,List.foldl_cons,List.foldl_nil,qS,List.cons.injEq,and_true]
  omega
 ·simp at hl
theorem zC5{l:List Int}(hl:l.length=4)(hb:bN l):be (IntKind.i64.wrap (de l)) 4=l:=by
 rcases l with _ | ⟨a,_ | ⟨b,_ | ⟨c,_ | ⟨d,_ | ⟨e,l⟩⟩⟩⟩⟩
 iterate 4 (exact absurd hl (by simp))
 ·obtain⟨a0,a1⟩:=hb a (by simp)
  obtain⟨b0,b1⟩:=hb b (by simp)
  obtain⟨c0,c1⟩:=hb c (by simp)
  obtain⟨d0,d1⟩:=hb d (by simp)
  simp only[be,de,List.foldl_cons,List.foldl_nil,qS,List.cons.injEq,and_true]
  refine⟨?_,?_,?_,?_⟩<;>omega
 ·simp at hl
theorem zks{l:List Int}(hl:l.length=6):nR (zG l)=l:=by
 rcases l with _ | ⟨a,_ | ⟨b,_ | ⟨c,_ | ⟨d,_ | ⟨e,_ | ⟨f,_ | ⟨g,l⟩⟩⟩⟩⟩⟩⟩
 iterate 6 (exact absurd hl (by simp))
 ·rfl
 ·simp at hl
theorem num_1{r:bV}(h:bN r.1):[cQ 1 r % 256]=(bE 1 r).1:=zC4 (rP 1 r) (dj h).1
theorem P5{r:bV}(h:bN r.1):be (cQ 4 r) 4=(bE 4 r).1:=zC5 (rP 4 r) (dj h).1
theorem kp(n:Nat){r:bV}(h:bN r.1):bN (bE n r).2.1:=(dj h).2
theorem zkt:Xk gu gP:=by
 refine⟨fun r h=>LI h,fun r h=>?_,fun r h hf=>?_⟩
 ·exact P4 6 (P4 _ (P4 1 (P4 4 h)))
 ·have h1:=kp 4 h
  have h2:=kp 1 h1
  have hn:=(Gf h1).1
  unfold gu at hf ⊢
  simp only at hf ⊢
  have h3:=kp (cQ 1 (bE 4 r).2).toNat h2
  have R4:=(dj (n:=(cQ 1 (bE 4 r).2).toNat) h2).1
  have l3:=rP (cQ 1 (bE 4 r).2).toNat (bE 1 (bE 4 r).2).2
  have k1:=uC hf
  have k2:=uC k1.1
  have k3:=uC k2.1
  have k4:=uC k3.1
  have e1:=num_1 h1
  have e4:=P5 h
  have e6:=zks (rP 6 (bE (cQ 1 (bE 4 r).2).toNat (bE 1 (bE 4 r).2).2).2)
  unfold gP
  simp only
  rw[zBo R4,Px,l3,e4,e6]
  have jq:=hn.1
  have jd:=hn.2
  rw[show (((cQ 1 (bE 4 r).2).toNat:Nat):Int) % 256=cQ 1 (bE 4 r).2 % 256 from by omega,e1]
  simp only[List.append_assoc]
  rw[<-k1.2,<-k2.2,<-k3.2,<-k4.2]
theorem zC6{r:bV}(h:bN r.1)(hf:(lI r).2.2=false):r.2=false/\r.1=be (lI r).1.1 4++[(lI r).1.2 % 256]++(lI r).2.1:=by
 unfold lI at hf ⊢
 simp only at hf ⊢
 have k1:=uC hf
 have k2:=uC k1.1
 rw[P5 h,num_1 (kp 4 h),List.append_assoc,<-k1.2,<-k2.2]
 exact⟨k2.1,rfl⟩
theorem Xk.ok{α:Type}{part:bV->α×bV}{g:α->List Int}(hp:Xk part g){r:bV}(hf:(part r).2.2=false):r.2=false:=by
 cases hq:r.2 with
 | false=>rfl
 | true=>rw[hp.flag _ hq] at hf;simp at hf
end Go.Tr
