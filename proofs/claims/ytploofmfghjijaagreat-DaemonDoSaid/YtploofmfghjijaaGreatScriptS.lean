/- Acts of bytes: what the printed functions of layer 22 come to. Acts of bytes: one act, all of them. The laws of acts of bytes. Conditions: none but those that each theorem states. -/
import Derived.Test.YtploofmfghjijaaGreatBE
import Derived.Test.YtploofmfghjijaaGreatMacD
import Derived.Test.YtploofmfghjijaaGreatBD
namespace Go.Tr
open Go
set_option linter.unusedVariables false
set_option linter.unusedSimpArgs false
set_option maxRecDepth 100000
set_option maxHeartbeats 4000000
def tl(up:Bool)(n:Int):UInt8:=
 if up then [(48:UInt8),49,50,51,52,53,54,55,56,57,65,66,67,68,69,70].getD n.toNat 0
 else [(48:UInt8),49,50,51,52,53,54,55,56,57,97,98,99,100,101,102].getD n.toNat 0
abbrev M6:=Int×Int×Int×Int×Int×Int
def ig(a:Int):Prop:=0<=a/\a<256
structure iZ(m:M6):Prop where
 h0:ig m.1
 h1:ig m.2.1
 h2:ig m.2.2.1
 h3:ig m.2.2.2.1
 h4:ig m.2.2.2.2.1
 h5:ig m.2.2.2.2.2
def tx(sep:UInt8)(u:Fin 6->Bool)(m:M6):List UInt8:=
 [tl (u 0) (m.1 / 16),tl (u 0) (m.1 % 16),sep,tl (u 1) (m.2.1 / 16),tl (u 1) (m.2.1 % 16),sep,tl (u 2) (m.2.2.1 / 16),tl (u 2) (m.2.2.1 % 16),sep,
  tl (u 3) (m.2.2.2.1 / 16),tl (u 3) (m.2.2.2.1 % 16),sep,tl (u 4) (m.2.2.2.2.1 / 16),tl (u 4) (m.2.2.2.2.1 % 16),sep,tl (u 5) (m.2.2.2.2.2 / 16),tl (u 5) (m.2.2.2.2.2 % 16)]
theorem zjj(m:M6):yO m=some (m==(0,0,0,0,0,0),()):=by
 unfold yO;rfl
abbrev zBg(m:M6)(i:Nat):Int:=[m.1,m.2.1,m.2.2.1,m.2.2.2.1,m.2.2.2.2.1,m.2.2.2.2.2].getD i 0
theorem iZ.at{m:M6}(hm:iZ m){i:Nat}(hi:i<6):ig (zBg m i):=by
 match i,hi with
 | 0,_=>exact hm.h0
 | 1,_=>exact hm.h1
 | 2,_=>exact hm.h2
 | 3,_=>exact hm.h3
 | 4,_=>exact hm.h4
 | 5,_=>exact hm.h5
def cm(x y w:Int):Int:=if x>y then 1 else if x<y then -1 else w
abbrev l6(m:M6):List Int:=[m.1,m.2.1,m.2.2.1,m.2.2.2.1,m.2.2.2.2.1,m.2.2.2.2.2]
end Go.Tr
namespace Go.Tr
open Go
set_option linter.unusedVariables false
set_option linter.unusedSimpArgs false
set_option maxRecDepth 100000
set_option maxHeartbeats 4000000
def pG(n:Nat):UInt8:=UInt8.ofNat (48+n)
def ds(u:Nat):List UInt8:=if u<10 then [pG u] else if u<100 then [pG (u / 10),pG (u % 10)] else [pG (u / 100),pG (u / 10 % 10),pG (u % 10)]
def Pu(s:List UInt8):Nat:=s.foldl (fun n c=>10*n+(c.toNat-48)) 0
theorem ds2:∀ a b:Fin 10,(a.val=0\/(Pu [pG a.val,pG b.val]<1000/\ds (Pu [pG a.val,pG b.val])=[pG a.val,pG b.val])):=by decide +kernel
theorem ds1:∀ a:Fin 10,Pu [pG a.val]<1000/\ds (Pu [pG a.val])=[pG a.val]:=by decide +kernel
def pt(a:Int)(k:Nat):Nat:=(a / 2 ^ (8*k) % 256).toNat
def adT(a:Int):List UInt8:=ds (pt a 3)++46::(ds (pt a 2)++46::(ds (pt a 1)++46::ds (pt a 0)))
def cd(a:Int):Prop:=0<=a/\a<4294967296
set_option maxHeartbeats 400000
def Wd(n:Int):Int:=2 ^ (32-n).toNat
def bo(n:Int):Prop:=0<=n/\n<=32
instance (n:Int):Decidable (bo n):=inferInstanceAs (Decidable (_/\_))
theorem F9{n:Int}(h:bo n):∃ j:Nat,j<=32/\n=32-(j:Int)/\Wd n=2 ^ j:=by
 obtain⟨h0,h1⟩:=h
 exact⟨(32-n).toNat,by omega,by omega,rfl⟩
theorem zBi:∀ n:Fin 33,1<=Wd (n.val:Int)/\Wd (n.val:Int)<=4294967296/\(n.val=0\/Wd ((n.val:Int)-1)=2*Wd (n.val:Int))/\4294967296 % Wd (n.val:Int)=0:=by decide
theorem Cu{n:Int}(h:bo n):1<=Wd n/\Wd n<=4294967296/\(n=0\/Wd (n-1)=2*Wd n)/\4294967296 % Wd n=0:=by
 obtain⟨h0,h1⟩:=h
 have:=zBi ⟨n.toNat,by omega⟩
 simp only[Int.toNat_of_nonneg h0] at this
 refine⟨this.1,this.2.1,?_,this.2.2.2⟩
 rcases this.2.2.1 with h | h
 ·left;omega
 ·exact .inr h
def rB(b:Int×Int):Bool:=decide (bo b.2)&&b.1 % Wd b.2==0
theorem zjk{n:Int}(h:bo n):EJ n=some (4294967296-Wd n,()):=by
 obtain⟨j,hj,rfl,e⟩:=F9 h
 unfold EJ
 rw[bA (by omega) (by omega),aW,aC (by omega),e]
 have:(32:Int)-(32-(j:Int))=(j:Int):=by omega
 rw[this,NV (k:=.u32) j hj,aW]
 have key:∀ j:Fin 33,IntKind.u32.wrap (4294967295*2 ^ j.val)=4294967296-2 ^ j.val:=by decide
 rw[key ⟨j,by omega⟩]
theorem Gb{b:Int×Int}(hb:cd b.1):vy b=some (rB b,()):=by
 unfold vy
 simp only[aW,cc]
 by_cases h:bo b.2
 ·have hv:(decide (b.2>=0)&&decide (b.2<=32))=true:=by simp only[Bool.and_eq_true,decide_eq_true_eq];exact h
  rw[hv,zjk h,gX]
  obtain⟨j,hj,e0,e⟩:=F9 h
  have Pv:(2:Int) ^ IntKind.u32.bits=4294967296:=rfl
  rw[zpP (k:=.u32) (m:=4294967296-Wd b.2) j hb.1 (by rw[e,Pv]) hj,<-e]
  have bd:=Cu h
  have m0:=Int.emod_nonneg b.1 (show Wd b.2≠0 by omega)
  have m1:=Int.emod_lt_of_pos b.1 (show 0<Wd b.2 by omega)
  rw[qY (by omega) (by omega)]
  unfold rB
  rw[decide_eq_true h]
 ·have hv:(decide (b.2>=0)&&decide (b.2<=32))=false:=by
   rw[Bool.and_eq_false_iff,decide_eq_false_iff_not,decide_eq_false_iff_not]
   unfold bo at h;omega
  rw[hv,wY]
  unfold rB
  rw[decide_eq_false h];rfl
theorem xw{b:Int×Int}(h:rB b=true):bo b.2/\b.1 % Wd b.2=0:=by
 unfold rB at h
 rw[Bool.and_eq_true,decide_eq_true_eq,beq_iff_eq] at h
 exact h
theorem zBj{n a:Int}(h:bo n)(ha:cd a):IntKind.u32.wrap (lr .u32 a (4294967296-Wd n))=a-a % Wd n:=by
 obtain⟨j,hj,e0,e⟩:=F9 h
 have Pv:(2:Int) ^ IntKind.u32.bits=4294967296:=rfl
 rw[zpO (k:=.u32) (m:=4294967296-Wd n) j ha.1 (by rw[Pv];exact ha.2) (by rw[e,Pv]) hj,<-e]
 have bd:=Cu h
 have m0:=Int.emod_nonneg a (show Wd n≠0 by omega)
 have m2:a % Wd n<=a:=by
  have:=Int.mul_ediv_add_emod a (Wd n)
  have:0<=a / Wd n:=Int.ediv_nonneg ha.1 (by omega)
  have:0<=Wd n*(a / Wd n):=Int.mul_nonneg (by omega) this
  omega
 have:=ha.2
 rw[qY (by omega) (by omega)]
theorem zBk{b:Int×Int}{a:Int}(hb:cd b.1)(ha:cd a):IH b a=some (rB b&&(a-a % Wd b.2==b.1),()):=by
 unfold IH
 rw[Gb hb]
 simp only[au,cc,aW]
 cases h:rB b with
 | false=>rw[wY];rfl
 | true=>rw[zjk (xw h).1,gX,zBj (xw h).1 ha]
def pH(x y:Int×Int):Bool:=rB x&&rB y&&decide (x.2>=y.2)&&(rB y&&(x.1-x.1 % Wd y.2==y.1))
theorem zjl{x y:Int×Int}(hx:cd x.1)(hy:cd y.1):EK x y=some (pH x y,()):=by
 unfold EK
 rw[Gb hx,Gb hy,zBk hy hx]
 simp only[au,gX,cc,aW]
 rfl
theorem zjm{x y:Int×Int}(hx:cd x.1)(hy:cd y.1):EL x y=some (pH x y||pH y x,()):=by
 unfold EL
 rw[zjl hx hy,zjl hy hx]
 simp only[au,gX,cc,dI,aW]
def fa(b:Int×Int):Int:=if rB b=true then Wd b.2 else 0
theorem Gc{b:Int×Int}(hb:cd b.1):vz b=some (fa b,()):=by
 unfold vz fa
 rw[Gb hb]
 simp only[au]
 cases h:rB b with
 | false=>rfl
 | true=>
  simp only[Bool.not_true,bn,if_true]
  obtain⟨j,hj,e0,e⟩:=F9 (xw h).1
  rw[bA (by omega) (by omega),aW,aC (by omega),show (32:Int)-b.2=(j:Int) from by omega,NV j (by show j<=64;omega),aW,e]
  have key:∀ j:Fin 33,IntKind.i64.wrap (1*2 ^ j.val)=2 ^ j.val:=by decide
  rw[key ⟨j,by omega⟩]
theorem Pw{b:Int×Int}(hb:cd b.1):0<=fa b/\b.1+fa b<=4294967296:=by
 unfold fa
 split
 ·rename_i h
  obtain⟨h1,h2⟩:=xw h
  have bd:=Cu h1
  refine⟨by omega,?_⟩
  obtain⟨q,hq⟩:=Int.dvd_of_emod_eq_zero h2
  obtain⟨p,hp⟩:=Int.dvd_of_emod_eq_zero bd.2.2.2
  rw[hq,hp]
  have:q<p:=by
   have:=hb.2
   rw[hq,hp] at this
   exact Int.lt_of_mul_lt_mul_left this (by omega)
  have:Wd b.2*(q+1)<=Wd b.2*p:=Int.mul_le_mul_of_nonneg_left (by omega) (by omega)
  rw[Int.mul_add] at this
  omega
 ·have:=hb.2;omega
theorem zBl{b:Int×Int}(hb:cd b.1)(k:Int):II b k=some (if 0<=k/\k<fa b then (b.1+k,true,()) else (0,false,())):=by
 unfold II
 rw[Gc hb]
 simp only[gX,cc,dI,aW,oi,Bool.or_eq_true,decide_eq_true_eq]
 have:=Pw hb
 have:=hb.1
 by_cases h:0<=k/\k<fa b
 ·rw[if_neg (by omega),if_pos h,qY (n:=k) (by omega) (by omega),qY (by omega) (by omega)]
 ·rw[if_pos (by omega),if_neg h]
set_option maxHeartbeats 1000000
def bt(b:Int×Int):List UInt8:=adT b.1++47::ds b.2.toNat
end Go.Tr
namespace Go.Tr
open Go
set_option linter.unusedVariables false
set_option maxRecDepth 100000
end Go.Tr
namespace Go.Tr
open Go
set_option linter.unusedVariables false
set_option linter.unusedSimpArgs false
set_option maxRecDepth 100000
set_option maxHeartbeats 4000000
theorem zD:iZ cJ:=⟨⟨by decide,by decide⟩,⟨by decide,by decide⟩,⟨by decide,by decide⟩,⟨by decide,by decide⟩,⟨by decide,by decide⟩,⟨by decide,by decide⟩⟩
theorem vK:ig 0:=⟨by decide,by decide⟩
def bN(b:List Int):Prop:=∀ c∈b,ig c
theorem zBm{b:List Int}(h:bN b)(k:Nat):bN (b.drop k):=fun c hc=>h c (List.mem_of_mem_drop hc)
theorem zBn{b:List Int}(h:bN b)(k:Nat):bN (b.take k):=fun c hc=>h c (List.mem_of_mem_take hc)
end Go.Tr
