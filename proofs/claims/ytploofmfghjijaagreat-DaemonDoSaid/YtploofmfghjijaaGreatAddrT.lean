/- The laws of addresses: four numbers. The laws of addresses: prefixes made, written and read. The laws of addresses: prefixes that are none. The laws of addresses: which prefixes lie in which. The laws of addresses: halves. Conditions: none but those that each theorem states. -/
import Derived.Test.YtploofmfghjijaaGreatScriptS
namespace Go.Tr
open Go
set_option linter.unusedVariables false
set_option linter.unusedSimpArgs false
set_option maxRecDepth 100000
set_option maxHeartbeats 1000000
theorem zDo{a n:Int}(ha:cd a)(h:bo n):cd (a-a % Wd n)/\rB (a-a % Wd n,n)=true/\a-a % Wd n<=a:=by
 have bd:=Cu h
 have m0:=Int.emod_nonneg a (show Wd n≠0 by omega)
 have m2:a % Wd n<=a:=by
  have:=Int.mul_ediv_add_emod a (Wd n)
  have:0<=a / Wd n:=Int.ediv_nonneg ha.1 (by omega)
  have:0<=Wd n*(a / Wd n):=Int.mul_nonneg (by omega) this
  omega
 refine⟨by have:=ha.2;exact⟨by omega,by omega⟩,?_,by omega⟩
 unfold rB
 rw[Bool.and_eq_true,decide_eq_true_eq,beq_iff_eq]
 refine⟨h,?_⟩
 show (a-a % Wd n) % Wd n=0
 rw[Int.sub_emod,Int.emod_emod_of_dvd _ (Int.dvd_refl _),Int.sub_self,Int.zero_emod]
def bB(a bits:Int):Int×Int:=(a-a % Wd (20+bits % 13),20+bits % 13)
theorem zDp:∀ k:Fin 13,Wd (20+(k.val:Int))<=4096:=by decide
theorem zDq{a bits:Int}(ha:cd a)(hb:0<=bits):IG a bits=some (bB a bits,()):=by
 unfold IG
 rw[aC (by decide),Int.tmod_eq_emod_of_nonneg hb,aW,bA (n:=bits % 13) (by omega) (by omega),aW,bA (n:=20+bits % 13) (by omega) (by omega),aW]
 have zR:bo (20+bits % 13):=by unfold bo;omega
 obtain⟨j,hj,e0,e⟩:=F9 zR
 have e1:(32:Int)-(20+bits % 13)=(j:Int):=by omega
 rw[bA (n:=32-(20+bits % 13)) (by omega) (by omega),aW,aC (by omega),e1,SU (k:=.u32) j hj,aW,aW,aC (by omega),NV (k:=.u32) j hj,aW]
 have bd:=Cu zR
 have m0:=Int.emod_nonneg a (show Wd (20+bits % 13)≠0 by omega)
 have md:=Int.mul_ediv_add_emod a (Wd (20+bits % 13))
 have hq:0<=a / Wd (20+bits % 13):=Int.ediv_nonneg ha.1 (by omega)
 have yf:0<=Wd (20+bits % 13)*(a / Wd (20+bits % 13)):=Int.mul_nonneg (by omega) hq
 have:=ha.2
 rw[<-e,Int.mul_comm,qY (by omega) (by omega)]
 unfold bB
 congr 3
 omega
structure zW(b:Int×Int):Prop where
 r:rB b=true
 i:cd b.1
 n:20<=b.2/\b.2<=32
 w:1<=Wd b.2/\Wd b.2<=4096
 d:b.1 % Wd b.2=0
 t:b.1+Wd b.2<=4294967296
theorem zkA{a bits:Int}(ha:cd a)(hb:0<=bits):zW (bB a bits):=by
 have zR:bo (20+bits % 13):=by unfold bo;omega
 obtain⟨g1,g2,g3⟩:=zDo ha zR
 have bd:=Cu zR
 have sz:=Pw (b:=bB a bits) g1
 unfold fa at sz
 rw[if_pos (show rB (bB a bits)=true from g2)] at sz
 have ws:=zDp ⟨(bits % 13).toNat,by omega⟩
 simp only[Int.toNat_of_nonneg (show 0<=bits % 13 by omega)] at ws
 exact⟨g2,g1,by show 20<=20+bits % 13/\20+bits % 13<=32;omega,⟨bd.1,ws⟩,(xw g2).2,sz.2⟩
theorem zDr{x b W:Int}(hW:0<W)(hd:b % W=0):x-x % W=b ↔ b<=x/\x<b+W:=by
 have m0:=Int.emod_nonneg x (show W≠0 by omega)
 have m1:=Int.emod_lt_of_pos x hW
 constructor
 ·intro h;omega
 ·rintro ⟨h1,h2⟩
  have e:(x-b) % W=x % W:=by rw[Int.sub_emod,hd,Int.sub_zero,Int.emod_emod_of_dvd _ (Int.dvd_refl _)]
  have e2:(x-b) % W=x-b:=Int.emod_eq_of_lt (by omega) (by omega)
  omega
theorem zDs:∀ m n:Fin 33,n.val<=m.val->Wd (n.val:Int) % Wd (m.val:Int)=0:=by decide +kernel
theorem zDt{m n:Int}(hm:bo m)(hn:bo n)(h:n<=m):Wd m ∣ Wd n:=by
 obtain⟨a0,a1⟩:=hm
 obtain⟨b0,b1⟩:=hn
 have:=zDs ⟨m.toNat,by omega⟩ ⟨n.toNat,by omega⟩ (by show n.toNat<=m.toNat;omega)
 simp only[Int.toNat_of_nonneg a0,Int.toNat_of_nonneg b0] at this
 exact Int.dvd_of_emod_eq_zero this
theorem zkB{A u v:Int}(hA:0<A)(hu:A ∣ u)(hv:A ∣ v)(h:u<v):u+A<=v:=by
 obtain⟨p,rfl⟩:=hu
 obtain⟨q,rfl⟩:=hv
 have:p<q:=Int.lt_of_mul_lt_mul_left h (by omega)
 have:A*(p+1)<=A*q:=Int.mul_le_mul_of_nonneg_left (by omega) (by omega)
 rw[Int.mul_add] at this
 omega
theorem Xp{x y:Int×Int}(hx:zW x)(hy:zW y)(h:y.2<=x.2):
  (y.1<=x.1/\x.1<y.1+Wd y.2 ↔ y.1<=x.1/\x.1+Wd x.2<=y.1+Wd y.2)/\(y.1<=x.1/\x.1<y.1+Wd y.2 ↔ x.1<y.1+Wd y.2/\y.1<x.1+Wd x.2):=by
 have dv:=zDt (xw hx.r).1 (xw hy.r).1 h
 have dx:=Int.dvd_of_emod_eq_zero hx.d
 have dy:=Int.dvd_trans dv (Int.dvd_of_emod_eq_zero hy.d)
 have dyb:=Int.dvd_add dy dv
 have h1:=hx.w.1
 refine⟨⟨fun ⟨a,b⟩=>⟨a,zkB (by omega) dx dyb b⟩,fun ⟨a,b⟩=>⟨a,by omega⟩⟩,⟨fun ⟨a,b⟩=>⟨b,by omega⟩,fun ⟨a,b⟩=>⟨?_,a⟩⟩⟩
 have:=zkB (by omega) dy (Int.dvd_add dx (Int.dvd_refl _)) b
 omega
theorem Xq{x y:Int×Int}(hx:zW x)(hy:zW y)(h:y.2<=x.2):pH x y=(decide (y.1<=x.1)&&decide (x.1<y.1+Wd y.2)):=by
 unfold pH
 rw[hx.r,hy.r,decide_eq_true (show x.2>=y.2 from h)]
 apply Bool.eq_iff_iff.2
 simp only[Bool.and_eq_true,beq_iff_eq,decide_eq_true_eq,true_and]
 exact zDr (by have:=hy.w.1;omega) hy.d
theorem zkF{x y:Int×Int}(h:x.2<y.2):pH x y=false:=by
 unfold pH
 rw[decide_eq_false (show ¬ x.2>=y.2 from by omega)];simp
end Go.Tr
