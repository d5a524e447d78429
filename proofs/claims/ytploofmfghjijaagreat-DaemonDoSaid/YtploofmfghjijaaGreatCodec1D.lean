/- The functions that these laws reach, as Lean functions: printed by a program of this session's. Conditions: none. -/
import Derived.Test.YtploofmfghjijaaGreatBD
import Derived.Test.YtploofmfghjijaaGreatBE
import Derived.Test.YtploofmfghjijaaGreatMacD
namespace Go.Tr
open Go
noncomputable section
set_option linter.unusedVariables false
set_option maxRecDepth 100000
def yP(n:Int)(r:(List Int)×Bool):Option ((List Int)×((List Int)×Bool)×Unit):=
 ck (!r.2)<|
 ck (!r.2)<|
 ck (!r.2)<|
 ck (!r.2)<|
 ck (!r.2)<|
 ck (!r.2)<|
 cn r.2<|
 ab (r.2||decide (n>(↑r.1.length:Int))) fun v0=>
 ay v0 (
 aj ((0:Int)<=n/\n<=n/\n<(9223372036854775808:Int)/\room (1:Nat) n.toNat)<|
 some (List.replicate n.toNat (0:Int),(r.1,v0),())) (
 aj ((0:Int)<=(0:Int)/\(0:Int)<=n/\n<=(↑r.1.length:Int))<|
 aj ((0:Int)<=n/\n<=(↑r.1.length:Int)/\(↑r.1.length:Int)<=(↑r.1.length:Int))<|
 some (cE (0:Nat) n.toNat r.1,(cE n.toNat (↑r.1.length:Int).toNat r.1,v0),()))
abbrev S4:Type:=Int×(List Int)×Int×Int×(List Int)×Bool×Unit
abbrev zbk:Type:=(Int×(List Int)×Bool×Unit)⊕(Int×((List Int)×Bool)×Unit)
def Bx(n:Int)(t10:List Int)(t11 t12:Int)(IK:List Int)(yQ:Bool):Option (S4⊕zbk):=
 ay (decide (t12<t11)) (
 aj ((0:Int)<=t12/\t12<(↑t10.length:Int))<|
 ab (t10.getD t12.toNat (0:Int)) fun v1=>
 aj ((0:Int)<=(8:Int))<|
 ab (we IntKind.i64 n (8:Int)) fun v2=>
 ab (IntKind.i64.wrap v1) fun v3=>
 ab (IntKind.i64.wrap (wb IntKind.i64 v2 v3)) fun v4=>
 ab (IntKind.i64.wrap (t12+(1:Int))) fun v5=>
 some (.inl (v4,t10,t11,v5,IK,yQ,()))) (
 some (.inr (.inl (n,IK,yQ,()))))
def S5(s:S4):Option zbk:=ct (fun s:S4=>Bx s.1 s.2.1 s.2.2.1 s.2.2.2.1 s.2.2.2.2.1 s.2.2.2.2.2.1) s
def sK(bytes:Int)(r:(List Int)×Bool):Option (Int×((List Int)×Bool)×Unit):=
 ao (yP bytes r) fun y0=>
 ao (S5 ((0:Int),y0.1,(↑y0.1.length:Int),(0:Int),y0.2.1.1,y0.2.1.2,())) fun y6=>
 cC y6 (fun t7=>
 some (t7.1,(t7.2.1,t7.2.2.1),())) (fun r8=>
 some r8)
def ug(r:(List Int)×Bool):Option (Int×((List Int)×Bool)×Unit):=
 ao (sK ((1:Int)) r) fun y0=>
 some (y0.1,y0.2.1,())
def ri(r:(List Int)×Bool):Option (Int×((List Int)×Bool)×Unit):=
 ao (sK ((4:Int)) r) fun y0=>
 ab (IntKind.u32.wrap y0.1) fun v1=>
 some (v1,y0.2.1,())
def By(r:(List Int)×Bool):Option (cH×((List Int)×Bool)×Unit):=
 ao (yP ((6:Int)) r) fun y0=>
 aj ((6:Nat)<=y0.1.length)<|
 some ((y0.1.getD (0:Nat) (0:Int),y0.1.getD (1:Nat) (0:Int),y0.1.getD (2:Nat) (0:Int),y0.1.getD (3:Nat) (0:Int),y0.1.getD (4:Nat) (0:Int),y0.1.getD (5:Nat) (0:Int)),y0.2.1,())
def EM(r:(List Int)×Bool):Option (aX×((List Int)×Bool)×Unit):=
 ao (ri r) fun y0=>
 ao (ug y0.2.1) fun y1=>
 ao (yP y1.1 y1.2.1) fun y2=>
 ab (pU y2.1) fun (v3:List UInt8)=>
 ao (By y2.2.1) fun y4=>
 some ((y0.1,v3,y4.1),y4.2.1,())
abbrev S6:Type:=(List UInt8)×Int×Int×Unit
abbrev zbl:Type:=((List UInt8)×Unit)⊕(Bool×Unit)
def EN(owner:List UInt8)(t6 t7:Int):Option (S6⊕zbl):=
 ay (decide (t7<t6)) (
 aj ((0:Int)<=t7/\t7<(↑owner.length:Int))<|
 ab ((↑(owner.getD t7.toNat (0:UInt8)).toNat:Int)) fun v0=>
 ck (!decide (v0<(97:Int)))<|
 aj (decide (v0<(97:Int))=false->(!decide (v0<(97:Int)))=true)<|
 ab (decide (v0<(97:Int))||decide (v0>(122:Int))) fun v1=>
 ck v1<|
 ck v1<|
 ck (v1&&!decide (v0<(48:Int)))<|
 ck v1<|
 aj (v1=true->decide (v0<(48:Int))=false->(v1&&!decide (v0<(48:Int)))=true)<|
 ab (decide (v0<(48:Int))||decide (v0>(57:Int))) fun v2=>
 ck v1<|
 ab (v1&&v2) fun v3=>
 ay v3 (
 some (.inr (.inr (false,())))) (
 ab (IntKind.i64.wrap (t7+(1:Int))) fun v4=>
 some (.inl (owner,t6,v4,())))) (
 some (.inr (.inl (owner,()))))
def S7(s:S6):Option zbl:=ct (fun s:S6=>EN s.1 s.2.1 s.2.2.1) s
def Bz(owner:List UInt8):Option (Bool×Unit):=
 ao (S7 (owner,(↑owner.length:Int),(0:Int),())) fun y5=>
 cC y5 (fun t6=>
 ab (!t6.1==[]) fun v8=>
 ck v8<|
 ck v8<|
 ck v8<|
 ab (v8&&decide ((↑t6.1.length:Int)<=(8:Int))) fun v9=>
 some (v9,())) (fun r7=>
 some r7)
def rj(e:Int×aX×(Int×Int)×Int×cH×Int):Option (Bool×Unit):=
 ab (e.1==(1:Int)) fun v0=>
 ay v0 (
 ao (Bz e.2.1.2.1) fun y1=>
 ck y1.1<|
 ck y1.1<|
 ck y1.1<|
 bU y1.1 (IJ e.2.1.2.2) (false,()) fun y2=>
 ck y1.1<|
 ck y1.1<|
 ab (y1.1&&!y2.1) fun v3=>
 some (v3,())) (
 ab (e.1==(5:Int)) fun v4=>
 ay v4 (
 aj (decide (e.2.2.2.1>=(0:Int))=true->decide (e.2.2.2.1>=(0:Int))=true)<|
 aj (decide (e.2.2.2.1>=(0:Int))=true->decide (e.2.2.2.1>=(0:Int))=true)<|
 aj (decide (e.2.2.2.1>=(0:Int))=true->decide (e.2.2.2.1>=(0:Int))=true)<|
 aj (decide (e.2.2.2.1>=(0:Int))=true->decide (e.2.2.2.1>=(0:Int))=true)<|
 ab (decide (e.2.2.2.1>=(0:Int))&&decide (e.2.2.2.1<(4:Int))) fun v5=>
 some (v5,())) (
 aj (decide (e.1>=(0:Int))=true->decide (e.1>=(0:Int))=true)<|
 aj (decide (e.1>=(0:Int))=true->decide (e.1>=(0:Int))=true)<|
 aj (decide (e.1>=(0:Int))=true->decide (e.1>=(0:Int))=true)<|
 ab (decide (e.1>=(0:Int))&&decide (e.1<(8:Int))) fun v6=>
 some (v6,())))
def BB(r:(List Int)×Bool):Option ((Int×Int)×((List Int)×Bool)×Unit):=
 ao (ri r) fun y0=>
 ao (ug y0.2.1) fun y1=>
 some ((y0.1,y1.1),y1.2.1,())
def yR(b:List Int):Option (cw×Bool×Unit):=
 ao (ug ((b,false))) fun y0=>
 ab (y0.1==(1:Int)) fun v1=>
 ay v1 (
 ao (EM y0.2.1) fun y2=>
 ck (!y2.2.1.2)<|
 ck (!y2.2.1.2)<|
 ck (!y2.2.1.2)<|
 ck (!y2.2.1.2)<|
 ck (!y2.2.1.2)<|
 cn y2.2.1.2<|
 ab (y2.2.1.2||decide ((↑y2.2.1.1.length:Int)>(0:Int))) fun v3=>
 ck (!v3)<|
 bU (!v3) (rj ((y0.1,y2.1,((0:Int),(0:Int)),(0:Int),cJ,(0:Int)))) (false,()) fun y4=>
 ck (!v3)<|
 cn v3<|
 ab (v3||!y4.1) fun v5=>
 ay v5 (
 some (jh,false,())) (
 some ((y0.1,y2.1,((0:Int),(0:Int)),(0:Int),cJ,(0:Int)),true,()))) (
 ab (y0.1==(3:Int)) fun v6=>
 ay v6 (
 ao (BB y0.2.1) fun y7=>
 ck (!y7.2.1.2)<|
 ck (!y7.2.1.2)<|
 ck (!y7.2.1.2)<|
 ck (!y7.2.1.2)<|
 ck (!y7.2.1.2)<|
 cn y7.2.1.2<|
 ab (y7.2.1.2||decide ((↑y7.2.1.1.length:Int)>(0:Int))) fun v8=>
 ck (!v8)<|
 bU (!v8) (rj ((y0.1,fC,y7.1,(0:Int),cJ,(0:Int)))) (false,()) fun y9=>
 ck (!v8)<|
 cn v8<|
 ab (v8||!y9.1) fun v10=>
 ay v10 (
 some (jh,false,())) (
 some ((y0.1,fC,y7.1,(0:Int),cJ,(0:Int)),true,()))) (
 ab (y0.1==(4:Int)) fun v11=>
 ay v11 (
 ao (BB y0.2.1) fun mR=>
 ck (!mR.2.1.2)<|
 ck (!mR.2.1.2)<|
 ck (!mR.2.1.2)<|
 ck (!mR.2.1.2)<|
 ck (!mR.2.1.2)<|
 cn mR.2.1.2<|
 ab (mR.2.1.2||decide ((↑mR.2.1.1.length:Int)>(0:Int))) fun jt=>
 ck (!jt)<|
 bU (!jt) (rj ((y0.1,fC,mR.1,(0:Int),cJ,(0:Int)))) (false,()) fun av=>
 ck (!jt)<|
 cn jt<|
 ab (jt||!av.1) fun ic=>
 ay ic (
 some (jh,false,())) (
 some ((y0.1,fC,mR.1,(0:Int),cJ,(0:Int)),true,()))) (
 ab (y0.1==(5:Int)) fun gr=>
 ay gr (
 ao (ri y0.2.1) fun yS=>
 ao (ug yS.2.1) fun cA=>
 ao (By cA.2.1) fun cZ=>
 ck (!cZ.2.1.2)<|
 ck (!cZ.2.1.2)<|
 ck (!cZ.2.1.2)<|
 ck (!cZ.2.1.2)<|
 ck (!cZ.2.1.2)<|
 cn cZ.2.1.2<|
 ab (cZ.2.1.2||decide ((↑cZ.2.1.1.length:Int)>(0:Int))) fun v20=>
 ck (!v20)<|
 bU (!v20) (rj ((y0.1,(yS.1,[],(0:Int),(0:Int),(0:Int),(0:Int),(0:Int),(0:Int)),((0:Int),(0:Int)),cA.1,cZ.1,(0:Int)))) (false,()) fun y21=>
 ck (!v20)<|
 cn v20<|
 ab (v20||!y21.1) fun v22=>
 ay v22 (
 some (jh,false,())) (
 some ((y0.1,(yS.1,[],(0:Int),(0:Int),(0:Int),(0:Int),(0:Int),(0:Int)),((0:Int),(0:Int)),cA.1,cZ.1,(0:Int)),true,()))) (
 ab (y0.1==(2:Int)) fun v23=>
 ay v23 (
 ao (ri y0.2.1) fun ou=>
 ck (!ou.2.1.2)<|
 ck (!ou.2.1.2)<|
 ck (!ou.2.1.2)<|
 ck (!ou.2.1.2)<|
 ck (!ou.2.1.2)<|
 cn ou.2.1.2<|
 ab (ou.2.1.2||decide ((↑ou.2.1.1.length:Int)>(0:Int))) fun v25=>
 ck (!v25)<|
 bU (!v25) (rj ((y0.1,(ou.1,[],(0:Int),(0:Int),(0:Int),(0:Int),(0:Int),(0:Int)),((0:Int),(0:Int)),(0:Int),cJ,(0:Int)))) (false,()) fun qj=>
 ck (!v25)<|
 cn v25<|
 ab (v25||!qj.1) fun uh=>
 ay uh (
 some (jh,false,())) (
 some ((y0.1,(ou.1,[],(0:Int),(0:Int),(0:Int),(0:Int),(0:Int),(0:Int)),((0:Int),(0:Int)),(0:Int),cJ,(0:Int)),true,()))) (
 ab (y0.1==(6:Int)) fun v28=>
 ay v28 (
 ao (ri y0.2.1) fun sL=>
 ck (!sL.2.1.2)<|
 ck (!sL.2.1.2)<|
 ck (!sL.2.1.2)<|
 ck (!sL.2.1.2)<|
 ck (!sL.2.1.2)<|
 cn sL.2.1.2<|
 ab (sL.2.1.2||decide ((↑sL.2.1.1.length:Int)>(0:Int))) fun v30=>
 ck (!v30)<|
 bU (!v30) (rj ((y0.1,(sL.1,[],(0:Int),(0:Int),(0:Int),(0:Int),(0:Int),(0:Int)),((0:Int),(0:Int)),(0:Int),cJ,(0:Int)))) (false,()) fun S8=>
 ck (!v30)<|
 cn v30<|
 ab (v30||!S8.1) fun v32=>
 ay v32 (
 some (jh,false,())) (
 some ((y0.1,(sL.1,[],(0:Int),(0:Int),(0:Int),(0:Int),(0:Int),(0:Int)),((0:Int),(0:Int)),(0:Int),cJ,(0:Int)),true,()))) (
 ab (y0.1==(7:Int)) fun v33=>
 ay v33 (
 ao (ri y0.2.1) fun qk=>
 ck (!qk.2.1.2)<|
 ck (!qk.2.1.2)<|
 ck (!qk.2.1.2)<|
 ck (!qk.2.1.2)<|
 ck (!qk.2.1.2)<|
 cn qk.2.1.2<|
 ab (qk.2.1.2||decide ((↑qk.2.1.1.length:Int)>(0:Int))) fun v35=>
 ck (!v35)<|
 bU (!v35) (rj ((y0.1,(qk.1,[],(0:Int),(0:Int),(0:Int),(0:Int),(0:Int),(0:Int)),((0:Int),(0:Int)),(0:Int),cJ,(0:Int)))) (false,()) fun S9=>
 ck (!v35)<|
 cn v35<|
 ab (v35||!S9.1) fun v37=>
 ay v37 (
 some (jh,false,())) (
 some ((y0.1,(qk.1,[],(0:Int),(0:Int),(0:Int),(0:Int),(0:Int),(0:Int)),((0:Int),(0:Int)),(0:Int),cJ,(0:Int)),true,()))) (
 ck (!y0.2.1.2)<|
 ck (!y0.2.1.2)<|
 ck (!y0.2.1.2)<|
 ck (!y0.2.1.2)<|
 ck (!y0.2.1.2)<|
 cn y0.2.1.2<|
 ab (y0.2.1.2||decide ((↑y0.2.1.1.length:Int)>(0:Int))) fun mh=>
 ck (!mh)<|
 bU (!mh) (rj ((y0.1,fC,((0:Int),(0:Int)),(0:Int),cJ,(0:Int)))) (false,()) fun Ta=>
 ck (!mh)<|
 cn mh<|
 ab (mh||!Ta.1) fun v40=>
 ay v40 (
 some (jh,false,())) (
 some ((y0.1,fC,((0:Int),(0:Int)),(0:Int),cJ,(0:Int)),true,())))))))))
abbrev Tb:Type:=Int×Int×(List Int)×Unit
abbrev zbm:Type:=((List Int)×Unit)⊕((List Int)×Unit)
def IL(n k:Int)(b:List Int):Option (Tb⊕zbm):=
 ay (decide (k>=(0:Int))) (
 ab (IntKind.i64.wrap ((8:Int)*k)) fun v1=>
 aj ((0:Int)<=v1)<|
 ab (rZ IntKind.i64 n v1) fun v2=>
 ab (IntKind.u8.wrap v2) fun v3=>
 aj (room (1:Nat) (b.length+[v3].length))<|
 ab (IntKind.i64.wrap (k-(1:Int))) fun v4=>
 some (.inl (n,v4,b++[v3],()))) (
 some (.inr (.inl (b,()))))
def NY(s:Tb):Option zbm:=ct (fun s:Tb=>IL s.1 s.2.1 s.2.2.1) s
def vA(n bytes:Int)(b:List Int):Option ((List Int)×Unit):=
 ab (IntKind.i64.wrap (bytes-(1:Int))) fun v0=>
 ao (NY (n,v0,b,())) fun y5=>
 cC y5 (fun t6=>
 some (t6.1,())) (fun r7=>
 some r7)
def vB(n:Int)(b:List Int):Option ((List Int)×Unit):=
 ao (vA n ((8:Int)) b) fun y0=>
 some (y0.1,())
def rm(n:Int)(b:List Int):Option ((List Int)×Unit):=
 ao (vA n ((2:Int)) b) fun y0=>
 some (y0.1,())
def rq(a':Int)(b:List Int):Option ((List Int)×Unit):=
 ab (IntKind.i64.wrap a') fun v0=>
 ao (vA v0 ((4:Int)) b) fun y1=>
 some (y1.1,())
def xc(h:Int×(List UInt8)×Int×Int×Int×Int×Int×Int)(b:List Int):Option ((List Int)×Unit):=
 ao (rq h.1 b) fun y0=>
 ab (IntKind.u8.wrap (↑h.2.1.length:Int)) fun v1=>
 aj (room (1:Nat) (y0.1.length+[v1].length))<|
 aj (room (1:Nat) ((y0.1++[v1]).length+(ofBytes h.2.1).length))<|
 aj ((0:Int)<=(0:Int)/\(0:Int)<=(6:Int)/\(6:Int)<=(6:Int))<|
 aj (room (1:Nat) ((y0.1++[v1]++ofBytes h.2.1).length+[h.2.2.1,h.2.2.2.1,h.2.2.2.2.1,h.2.2.2.2.2.1,(q4 h).2.2.1,(q4 h).2.2.2].length))<|
 some (y0.1++[v1]++ofBytes h.2.1++[h.2.2.1,h.2.2.2.1,h.2.2.2.2.1,h.2.2.2.2.2.1,(q4 h).2.2.1,(q4 h).2.2.2],())
abbrev Tc:Type:=(List aX)×Int×Int×(List Int)×Unit
abbrev zbn:Type:=((List Int)×Unit)⊕((List Int)×Unit)
def EO(t13:List aX)(t14 t15:Int)(b:List Int):Option (Tc⊕zbn):=
 ay (decide (t15<t14)) (
 aj ((0:Int)<=t15/\t15<(↑t13.length:Int))<|
 ab ((Option.rec fC (fun val=>val) t13[t15.toNat]?)) fun (v1:Int×(List UInt8)×Int×Int×Int×Int×Int×Int)=>
 ao (xc v1 b) fun y2=>
 ab (IntKind.i64.wrap (t15+(1:Int))) fun v3=>
 some (.inl (t13,t14,v3,y2.1,()))) (
 some (.inr (.inl (b,()))))
def Td(s:Tc):Option zbn:=ct (fun s:Tc=>EO s.1 s.2.1 s.2.2.1 s.2.2.2.1) s
def IM(l:List aX)(b:List Int):Option ((List Int)×Unit):=
 ao (rm ((↑l.length:Int)) b) fun y0=>
 ao (Td (l,(↑l.length:Int),(0:Int),y0.1,())) fun y4=>
 cC y4 (fun t5=>
 some (t5.1,())) (fun r6=>
 some r6)
def BC(x:Int×Int)(b:List Int):Option ((List Int)×Unit):=
 ao (rq x.1 b) fun y0=>
 ab (IntKind.u8.wrap x.2) fun v1=>
 aj (room (1:Nat) (y0.1.length+[v1].length))<|
 some (y0.1++[v1],())
def IN(x:(Int×Int)×Int×Int)(b:List Int):Option ((List Int)×Unit):=
 ao (BC x.1 b) fun y0=>
 ao (vB x.2.1 y0.1) fun y1=>
 ao (rm x.2.2 y1.1) fun y2=>
 some (y2.1,())
abbrev Te:Type:=(List aH)×Int×Int×(List Int)×Unit
abbrev zbo:Type:=((List Int)×Unit)⊕((List Int)×Unit)
def EP(t13:List aH)(t14 t15:Int)(b:List Int):Option (Te⊕zbo):=
 ay (decide (t15<t14)) (
 aj ((0:Int)<=t15/\t15<(↑t13.length:Int))<|
 ab ((Option.rec c8 (fun val=>val) t13[t15.toNat]?)) fun (v1:(Int×Int)×Int×Int)=>
 ao (IN v1 b) fun y2=>
 ab (IntKind.i64.wrap (t15+(1:Int))) fun v3=>
 some (.inl (t13,t14,v3,y2.1,()))) (
 some (.inr (.inl (b,()))))
def Tf(s:Te):Option zbo:=ct (fun s:Te=>EP s.1 s.2.1 s.2.2.1 s.2.2.2.1) s
def IP(l:List aH)(b:List Int):Option ((List Int)×Unit):=
 ao (rm ((↑l.length:Int)) b) fun y0=>
 ao (Tf (l,(↑l.length:Int),(0:Int),y0.1,())) fun y4=>
 cC y4 (fun t5=>
 some (t5.1,())) (fun r6=>
 some r6)
def IQ(s':Int×cH×Int)(b:List Int):Option ((List Int)×Unit):=
 ab (IntKind.u8.wrap s'.1) fun v0=>
 aj (room (1:Nat) (b.length+[v0].length))<|
 aj ((0:Int)<=(0:Int)/\(0:Int)<=(6:Int)/\(6:Int)<=(6:Int))<|
 aj (room (1:Nat) ((b++[v0]).length+[s'.2.1.1,s'.2.1.2.1,s'.2.1.2.2.1,s'.2.1.2.2.2.1,s'.2.1.2.2.2.2.1,s'.2.1.2.2.2.2.2].length))<|
 ao (vB s'.2.2 (b++[v0]++[s'.2.1.1,s'.2.1.2.1,s'.2.1.2.2.1,s'.2.1.2.2.2.1,s'.2.1.2.2.2.2.1,s'.2.1.2.2.2.2.2])) fun y1=>
 some (y1.1,())
abbrev Tg:Type:=(List aL)×Int×Int×(List Int)×Unit
abbrev zbp:Type:=((List Int)×Unit)⊕((List Int)×Unit)
def ER(t13:List aL)(t14 t15:Int)(b:List Int):Option (Tg⊕zbp):=
 ay (decide (t15<t14)) (
 aj ((0:Int)<=t15/\t15<(↑t13.length:Int))<|
 ab ((Option.rec ko (fun val=>val) t13[t15.toNat]?)) fun (v1:Int×cH×Int)=>
 ao (IQ v1 b) fun y2=>
 ab (IntKind.i64.wrap (t15+(1:Int))) fun v3=>
 some (.inl (t13,t14,v3,y2.1,()))) (
 some (.inr (.inl (b,()))))
def Th(s:Tg):Option zbp:=ct (fun s:Tg=>ER s.1 s.2.1 s.2.2.1 s.2.2.2.1) s
def IS(l:List aL)(b:List Int):Option ((List Int)×Unit):=
 ao (rm ((↑l.length:Int)) b) fun y0=>
 ao (Th (l,(↑l.length:Int),(0:Int),y0.1,())) fun y4=>
 cC y4 (fun t5=>
 some (t5.1,())) (fun r6=>
 some r6)
def IT(x:Int×List aL)(b:List Int):Option ((List Int)×Unit):=
 ao (rq x.1 b) fun y0=>
 ao (IS x.2 y0.1) fun y1=>
 some (y1.1,())
abbrev Ti:Type:=(List (Int×List aL))×Int×Int×(List Int)×Unit
abbrev zbq:Type:=((List Int)×Unit)⊕((List Int)×Unit)
def ES(t13:List (Int×List aL))(t14 t15:Int)(b:List Int):Option (Ti⊕zbq):=
 ay (decide (t15<t14)) (
 aj ((0:Int)<=t15/\t15<(↑t13.length:Int))<|
 ab ((Option.rec ((0:Int),[]) (fun val=>val) t13[t15.toNat]?)) fun (v1:Int×List aL)=>
 ao (IT v1 b) fun y2=>
 ab (IntKind.i64.wrap (t15+(1:Int))) fun v3=>
 some (.inl (t13,t14,v3,y2.1,()))) (
 some (.inr (.inl (b,()))))
def Tj(s:Ti):Option zbq:=ct (fun s:Ti=>ES s.1 s.2.1 s.2.2.1 s.2.2.2.1) s
def IU(l:List (Int×List aL))(b:List Int):Option ((List Int)×Unit):=
 ao (rm ((↑l.length:Int)) b) fun y0=>
 ao (Tj (l,(↑l.length:Int),(0:Int),y0.1,())) fun y4=>
 cC y4 (fun t5=>
 some (t5.1,())) (fun r6=>
 some r6)
def IV(x:Int×Int×Int×Int×Int)(b:List Int):Option ((List Int)×Unit):=
 ao (rq x.1 b) fun y0=>
 ao (rm x.2.2.1 y0.1) fun y1=>
 ao (vB x.2.2.2.1 y1.1) fun y2=>
 ab (IntKind.u8.wrap x.2.2.2.2) fun v3=>
 aj (room (1:Nat) (y2.1.length+[v3].length))<|
 some (y2.1++[v3],())
abbrev Tk:Type:=(List aM)×Int×Int×(List Int)×Unit
abbrev zbr:Type:=((List Int)×Unit)⊕((List Int)×Unit)
def ET(t13:List aM)(t14 t15:Int)(b:List Int):Option (Tk⊕zbr):=
 ay (decide (t15<t14)) (
 aj ((0:Int)<=t15/\t15<(↑t13.length:Int))<|
 ab ((Option.rec ((0:Int),(0:Int),(0:Int),(0:Int),(0:Int)) (fun val=>val) t13[t15.toNat]?)) fun (v1:Int×Int×Int×Int×Int)=>
 ao (IV v1 b) fun y2=>
 ab (IntKind.i64.wrap (t15+(1:Int))) fun v3=>
 some (.inl (t13,t14,v3,y2.1,()))) (
 some (.inr (.inl (b,()))))
def Tl(s:Tk):Option zbr:=ct (fun s:Tk=>ET s.1 s.2.1 s.2.2.1 s.2.2.2.1) s
def IW(l:List aM)(b:List Int):Option ((List Int)×Unit):=
 ao (rm ((↑l.length:Int)) b) fun y0=>
 ao (Tl (l,(↑l.length:Int),(0:Int),y0.1,())) fun y4=>
 cC y4 (fun t5=>
 some (t5.1,())) (fun r6=>
 some r6)
def IX(x:Int×Int×Int×Int)(b:List Int):Option ((List Int)×Unit):=
 ao (rq x.1 b) fun y0=>
 ao (vB x.2.1 y0.1) fun y1=>
 ao (vB x.2.2.1 y1.1) fun y2=>
 ab (IntKind.u8.wrap x.2.2.2) fun v3=>
 aj (room (1:Nat) (y2.1.length+[v3].length))<|
 some (y2.1++[v3],())
abbrev Tm:Type:=(List (Int×Int×Int×Int))×Int×Int×(List Int)×Unit
abbrev zbs:Type:=((List Int)×Unit)⊕((List Int)×Unit)
def EU(t13:List (Int×Int×Int×Int))(t14 t15:Int)(b:List Int):Option (Tm⊕zbs):=
 ay (decide (t15<t14)) (
 aj ((0:Int)<=t15/\t15<(↑t13.length:Int))<|
 ab ((Option.rec ((0:Int),(0:Int),(0:Int),(0:Int)) (fun val=>val) t13[t15.toNat]?)) fun (v1:Int×Int×Int×Int)=>
 ao (IX v1 b) fun y2=>
 ab (IntKind.i64.wrap (t15+(1:Int))) fun v3=>
 some (.inl (t13,t14,v3,y2.1,()))) (
 some (.inr (.inl (b,()))))
def Tn(s:Tm):Option zbs:=ct (fun s:Tm=>EU s.1 s.2.1 s.2.2.1 s.2.2.2.1) s
def IY(l:List (Int×Int×Int×Int))(b:List Int):Option ((List Int)×Unit):=
 ao (rm ((↑l.length:Int)) b) fun y0=>
 ao (Tn (l,(↑l.length:Int),(0:Int),y0.1,())) fun y4=>
 cC y4 (fun t5=>
 some (t5.1,())) (fun r6=>
 some r6)
def EV(s':Int×Int×(List aX)×(List aH)×(List (Int×List aL))×(List aM)×List (Int×Int×Int×Int)):Option ((List Int)×Unit):=
 ao (vB s'.1 ([])) fun y0=>
 ao (rm s'.2.1 y0.1) fun y1=>
 ao (IM s'.2.2.1 y1.1) fun y2=>
 ao (IP s'.2.2.2.1 y2.1) fun y3=>
 ao (IU s'.2.2.2.2.1 y3.1) fun y4=>
 ao (IW s'.2.2.2.2.2.1 y4.1) fun y5=>
 ao (IY (q4 s').2.2 y5.1) fun y6=>
 some (y6.1,())
def vC(r:(List Int)×Bool):Option (Int×((List Int)×Bool)×Unit):=
 ao (sK ((8:Int)) r) fun y0=>
 some (y0.1,y0.2.1,())
def rr(r:(List Int)×Bool):Option (Int×((List Int)×Bool)×Unit):=
 ao (sK ((2:Int)) r) fun y0=>
 some (y0.1,y0.2.1,())
abbrev Tp:Type:=Int×(List aX)×((List Int)×Bool)×Unit
abbrev zbt:Type:=((List Int)×Bool×(List aX)×Unit)⊕(((List Int)×Bool)×(List aX)×Unit)
def EW(n:Int)(out:List aX)(r:(List Int)×Bool):Option (Tp⊕zbt):=
 aj (decide (n>(0:Int))=true->decide (n>(0:Int))=true)<|
 aj (decide (n>(0:Int))=true->decide (n>(0:Int))=true)<|
 aj (decide (n>(0:Int))=true->decide (n>(0:Int))=true)<|
 aj (decide (n>(0:Int))=true->decide (n>(0:Int))=true)<|
 aj (decide (n>(0:Int))=true->decide (n>(0:Int))=true)<|
 ab (decide (n>(0:Int))&&!r.2) fun v1=>
 ay v1 (
 ao (EM r) fun y2=>
 aj (room (32:Nat) (out.length+[y2.1].length))<|
 ab (IntKind.i64.wrap (n-(1:Int))) fun v3=>
 some (.inl (v3,out++[y2.1],y2.2.1,()))) (
 some (.inr (.inl (r.1,r.2,out,()))))
def zbu(s:Tp):Option zbt:=ct (fun s:Tp=>EW s.1 s.2.1 s.2.2.1) s
def IZ(r:(List Int)×Bool):Option (((List Int)×Bool)×(List aX)×Unit):=
 ao (rr r) fun y0=>
 ao (zbu (y0.1,[],y0.2.1,())) fun y4=>
 cC y4 (fun t5=>
 some ((t5.1,t5.2.1),t5.2.2.1,())) (fun r6=>
 some r6)
def I0(vD:List Int)(mS:Bool):Option (aH×(List Int)×Bool×Unit):=
 ao (BB ((vD,mS))) fun y0=>
 ao (vC y0.2.1) fun y1=>
 ao (rr y1.2.1) fun y2=>
 some ((y0.1,y1.1,y2.1),y2.2.1.1,y2.2.1.2,())
abbrev Tq:Type:=Int×(List aH)×((List Int)×Bool)×Unit
abbrev zbv:Type:=((List Int)×Bool×(List aH)×Unit)⊕(((List Int)×Bool)×(List aH)×Unit)
def EX(n:Int)(out:List aH)(r:(List Int)×Bool):Option (Tq⊕zbv):=
 aj (decide (n>(0:Int))=true->decide (n>(0:Int))=true)<|
 aj (decide (n>(0:Int))=true->decide (n>(0:Int))=true)<|
 aj (decide (n>(0:Int))=true->decide (n>(0:Int))=true)<|
 aj (decide (n>(0:Int))=true->decide (n>(0:Int))=true)<|
 aj (decide (n>(0:Int))=true->decide (n>(0:Int))=true)<|
 ab (decide (n>(0:Int))&&!r.2) fun v1=>
 ay v1 (
 ao (I0 r.1 r.2) fun y2=>
 aj (room (32:Nat) (out.length+[y2.1].length))<|
 ab (IntKind.i64.wrap (n-(1:Int))) fun v3=>
 some (.inl (v3,out++[y2.1],(y2.2.1,y2.2.2.1),()))) (
 some (.inr (.inl (r.1,r.2,out,()))))
def zbw(s:Tq):Option zbv:=ct (fun s:Tq=>EX s.1 s.2.1 s.2.2.1) s
def I1(r:(List Int)×Bool):Option (((List Int)×Bool)×(List aH)×Unit):=
 ao (rr r) fun y0=>
 ao (zbw (y0.1,[],y0.2.1,())) fun y4=>
 cC y4 (fun t5=>
 some ((t5.1,t5.2.1),t5.2.2.1,())) (fun r6=>
 some r6)
def I2(r:(List Int)×Bool):Option (aL×((List Int)×Bool)×Unit):=
 ao (ug r) fun y0=>
 ao (By y0.2.1) fun y1=>
 ao (vC y1.2.1) fun y2=>
 some ((y0.1,y1.1,y2.1),y2.2.1,())
abbrev Ts:Type:=Int×(List aL)×((List Int)×Bool)×Unit
abbrev zbx:Type:=((List Int)×Bool×(List aL)×Unit)⊕(((List Int)×Bool)×(List aL)×Unit)
def EY(n:Int)(out:List aL)(r:(List Int)×Bool):Option (Ts⊕zbx):=
 aj (decide (n>(0:Int))=true->decide (n>(0:Int))=true)<|
 aj (decide (n>(0:Int))=true->decide (n>(0:Int))=true)<|
 aj (decide (n>(0:Int))=true->decide (n>(0:Int))=true)<|
 aj (decide (n>(0:Int))=true->decide (n>(0:Int))=true)<|
 aj (decide (n>(0:Int))=true->decide (n>(0:Int))=true)<|
 ab (decide (n>(0:Int))&&!r.2) fun v1=>
 ay v1 (
 ao (I2 r) fun y2=>
 aj (room (24:Nat) (out.length+[y2.1].length))<|
 ab (IntKind.i64.wrap (n-(1:Int))) fun v3=>
 some (.inl (v3,out++[y2.1],y2.2.1,()))) (
 some (.inr (.inl (r.1,r.2,out,()))))
def zby(s:Ts):Option zbx:=ct (fun s:Ts=>EY s.1 s.2.1 s.2.2.1) s
def I3(r:(List Int)×Bool):Option (((List Int)×Bool)×(List aL)×Unit):=
 ao (rr r) fun y0=>
 ao (zby (y0.1,[],y0.2.1,())) fun y4=>
 cC y4 (fun t5=>
 some ((t5.1,t5.2.1),t5.2.2.1,())) (fun r6=>
 some r6)
def I4(vD:List Int)(mS:Bool):Option ((Int×List aL)×(List Int)×Bool×Unit):=
 ao (ri ((vD,mS))) fun y0=>
 ao (I3 y0.2.1) fun y1=>
 some ((y0.1,y1.2.1),y1.1.1,y1.1.2,())
abbrev Tt:Type:=Int×(List (Int×List aL))×((List Int)×Bool)×Unit
abbrev zbz:Type:=((List Int)×Bool×(List (Int×List aL))×Unit)⊕(((List Int)×Bool)×(List (Int×List aL))×Unit)
def EZ(n:Int)(out:List (Int×List aL))(r:(List Int)×Bool):Option (Tt⊕zbz):=
 aj (decide (n>(0:Int))=true->decide (n>(0:Int))=true)<|
 aj (decide (n>(0:Int))=true->decide (n>(0:Int))=true)<|
 aj (decide (n>(0:Int))=true->decide (n>(0:Int))=true)<|
 aj (decide (n>(0:Int))=true->decide (n>(0:Int))=true)<|
 aj (decide (n>(0:Int))=true->decide (n>(0:Int))=true)<|
 ab (decide (n>(0:Int))&&!r.2) fun v1=>
 ay v1 (
 ao (I4 r.1 r.2) fun y2=>
 aj (room (32:Nat) (out.length+[y2.1].length))<|
 ab (IntKind.i64.wrap (n-(1:Int))) fun v3=>
 some (.inl (v3,out++[y2.1],(y2.2.1,y2.2.2.1),()))) (
 some (.inr (.inl (r.1,r.2,out,()))))
def zbA(s:Tt):Option zbz:=ct (fun s:Tt=>EZ s.1 s.2.1 s.2.2.1) s
def I5(r:(List Int)×Bool):Option (((List Int)×Bool)×(List (Int×List aL))×Unit):=
 ao (rr r) fun y0=>
 ao (zbA (y0.1,[],y0.2.1,())) fun y4=>
 cC y4 (fun t5=>
 some ((t5.1,t5.2.1),t5.2.2.1,())) (fun r6=>
 some r6)
def I6(vD:List Int)(mS:Bool):Option (aM×(List Int)×Bool×Unit):=
 ao (ri ((vD,mS))) fun y0=>
 ab (IntKind.u32.wrap (lr IntKind.u32 y0.1 (65535:Int))) fun v1=>
 ab (IntKind.i64.wrap v1) fun v2=>
 ao (rr y0.2.1) fun y3=>
 ao (vC y3.2.1) fun y4=>
 ao (ug y4.2.1) fun y5=>
 some ((y0.1,v2,y3.1,y4.1,y5.1),y5.2.1.1,y5.2.1.2,())
abbrev Tu:Type:=Int×(List aM)×((List Int)×Bool)×Unit
abbrev zbB:Type:=((List Int)×Bool×(List aM)×Unit)⊕(((List Int)×Bool)×(List aM)×Unit)
def E0(n:Int)(out:List aM)(r:(List Int)×Bool):Option (Tu⊕zbB):=
 aj (decide (n>(0:Int))=true->decide (n>(0:Int))=true)<|
 aj (decide (n>(0:Int))=true->decide (n>(0:Int))=true)<|
 aj (decide (n>(0:Int))=true->decide (n>(0:Int))=true)<|
 aj (decide (n>(0:Int))=true->decide (n>(0:Int))=true)<|
 aj (decide (n>(0:Int))=true->decide (n>(0:Int))=true)<|
 ab (decide (n>(0:Int))&&!r.2) fun v1=>
 ay v1 (
 ao (I6 r.1 r.2) fun y2=>
 aj (room (40:Nat) (out.length+[y2.1].length))<|
 ab (IntKind.i64.wrap (n-(1:Int))) fun v3=>
 some (.inl (v3,out++[y2.1],(y2.2.1,y2.2.2.1),()))) (
 some (.inr (.inl (r.1,r.2,out,()))))
def zbC(s:Tu):Option zbB:=ct (fun s:Tu=>E0 s.1 s.2.1 s.2.2.1) s
def I7(r:(List Int)×Bool):Option (((List Int)×Bool)×(List aM)×Unit):=
 ao (rr r) fun y0=>
 ao (zbC (y0.1,[],y0.2.1,())) fun y4=>
 cC y4 (fun t5=>
 some ((t5.1,t5.2.1),t5.2.2.1,())) (fun r6=>
 some r6)
def I8(vD:List Int)(mS:Bool):Option ((Int×Int×Int×Int)×(List Int)×Bool×Unit):=
 ao (ri ((vD,mS))) fun y0=>
 ao (vC y0.2.1) fun y1=>
 ao (vC y1.2.1) fun y2=>
 ao (ug y2.2.1) fun y3=>
 some ((y0.1,y1.1,y2.1,y3.1),y3.2.1.1,y3.2.1.2,())
abbrev Tv:Type:=Int×(List (Int×Int×Int×Int))×((List Int)×Bool)×Unit
abbrev zbD:Type:=((List Int)×Bool×(List (Int×Int×Int×Int))×Unit)⊕(((List Int)×Bool)×(List (Int×Int×Int×Int))×Unit)
def E1(n:Int)(out:List (Int×Int×Int×Int))(r:(List Int)×Bool):Option (Tv⊕zbD):=
 aj (decide (n>(0:Int))=true->decide (n>(0:Int))=true)<|
 aj (decide (n>(0:Int))=true->decide (n>(0:Int))=true)<|
 aj (decide (n>(0:Int))=true->decide (n>(0:Int))=true)<|
 aj (decide (n>(0:Int))=true->decide (n>(0:Int))=true)<|
 aj (decide (n>(0:Int))=true->decide (n>(0:Int))=true)<|
 ab (decide (n>(0:Int))&&!r.2) fun v1=>
 ay v1 (
 ao (I8 r.1 r.2) fun y2=>
 aj (room (32:Nat) (out.length+[y2.1].length))<|
 ab (IntKind.i64.wrap (n-(1:Int))) fun v3=>
 some (.inl (v3,out++[y2.1],(y2.2.1,y2.2.2.1),()))) (
 some (.inr (.inl (r.1,r.2,out,()))))
def zbE(s:Tv):Option zbD:=ct (fun s:Tv=>E1 s.1 s.2.1 s.2.2.1) s
def I9(r:(List Int)×Bool):Option (((List Int)×Bool)×(List (Int×Int×Int×Int))×Unit):=
 ao (rr r) fun y0=>
 ao (zbE (y0.1,[],y0.2.1,())) fun y4=>
 cC y4 (fun t5=>
 some ((t5.1,t5.2.1),t5.2.2.1,())) (fun r6=>
 some r6)
def kW(n:Int):Option (Int×Unit):=
 some (if (if (1099511627776:Int)<n then (1099511627776:Int) else n)>(0:Int) then if (1099511627776:Int)<n then (1099511627776:Int) else n else (0:Int),())
abbrev Tw:Type:=(List aX)×(List aX)×Int×Int×Unit
abbrev zbF:Type:=((List aX)×Unit)⊕(Bool×Unit)
def Ja(hs t5:List aX)(t6 t7:Int):Option (Tw⊕zbF):=
 ay (decide (t7<t6)) (
 aj ((0:Int)<=t7/\t7<(↑t5.length:Int))<|
 ab ((Option.rec fC (fun val=>val) t5[t7.toNat]?)) fun (v0:Int×(List UInt8)×Int×Int×Int×Int×Int×Int)=>
 ao (Bz v0.2.1) fun y1=>
 ck (!!y1.1)<|
 ck (!!y1.1)<|
 ck (!!y1.1&&decide (t7>(0:Int)))<|
 ab (IntKind.i64.wrap (t7-(1:Int))) fun v2=>
 ck (!!y1.1&&decide (t7>(0:Int)))<|
 ck (!!y1.1&&decide (t7>(0:Int)))<|
 aj ((!!y1.1&&decide (t7>(0:Int)))=true->(0:Int)<=v2/\v2<(↑hs.length:Int))<|
 ab ((Option.rec fC (fun val=>val) hs[v2.toNat]?)) fun (v3:Int×(List UInt8)×Int×Int×Int×Int×Int×Int)=>
 ck (!!y1.1&&decide (t7>(0:Int)))<|
 ck (!!y1.1&&decide (t7>(0:Int)))<|
 ck (!!y1.1&&decide (t7>(0:Int)))<|
 ck (!!y1.1&&decide (t7>(0:Int)))<|
 ck (!!y1.1&&decide (t7>(0:Int)))<|
 ck (!!y1.1)<|
 aj ((!!y1.1)=true->decide (t7>(0:Int))=true->(!!y1.1&&decide (t7>(0:Int)))=true)<|
 ab (decide (t7>(0:Int))&&decide (v3.1>=v0.1)) fun v4=>
 cn (!y1.1)<|
 ab (!y1.1||v4) fun v5=>
 ay v5 (
 some (.inr (.inr (false,())))) (
 ab (IntKind.i64.wrap (t7+(1:Int))) fun v6=>
 some (.inl (hs,t5,t6,v6,())))) (
 some (.inr (.inl (hs,()))))
def zbG(s:Tw):Option zbF:=ct (fun s:Tw=>Ja s.1 s.2.1 s.2.2.1 s.2.2.2.1) s
def Jb(hs:List aX):Option (Bool×Unit):=
 ao (zbG (hs,hs,(↑hs.length:Int),(0:Int),())) fun y7=>
 cC y7 (fun t8=>
 some (decide ((↑t8.1.length:Int)<=(48:Int)),())) (fun r9=>
 some r9)
abbrev Tx:Type:=(List aH)×(List aH)×Int×Int×Unit
abbrev zbH:Type:=((List aH)×Unit)⊕(Bool×Unit)
def Jc(ss t5:List aH)(t6 t7:Int):Option (Tx⊕zbH):=
 ay (decide (t7<t6)) (
 aj ((0:Int)<=t7/\t7<(↑t5.length:Int))<|
 ab ((Option.rec c8 (fun val=>val) t5[t7.toNat]?)) fun (v0:(Int×Int)×Int×Int)=>
 ao (vy v0.1) fun y1=>
 ck (!!y1.1)<|
 ck (!!y1.1)<|
 bU (!!y1.1) (vz v0.1) ((0:Int),()) fun y2=>
 ck (!!y1.1)<|
 cn (!y1.1)<|
 ab (!y1.1||decide (y2.1>(256:Int))) fun v3=>
 ck (!v3)<|
 ck (!v3)<|
 ck (!v3)<|
 bU (!v3) (kW v0.2.1) ((0:Int),()) fun y4=>
 ck (!v3)<|
 ck (!v3)<|
 ab (v0.2.1 != y4.1) fun v5=>
 cn v3<|
 ab (v3||v5) fun v6=>
 ck (!v6)<|
 ck (!v6)<|
 cn v6<|
 ab (v6||decide (v0.2.2<(0:Int))) fun v7=>
 ck (!v7)<|
 ck (!v7)<|
 ck (!v7)<|
 bU (!v7) (vz v0.1) ((0:Int),()) fun y8=>
 ck (!v7)<|
 ck (!v7)<|
 cn v7<|
 ab (v7||decide (v0.2.2>=y8.1)) fun v9=>
 ay v9 (
 some (.inr (.inr (false,())))) (
 aj (decide (t7>(0:Int))=true->decide (t7>(0:Int))=true)<|
 ab (IntKind.i64.wrap (t7-(1:Int))) fun v10=>
 aj (decide (t7>(0:Int))=true->decide (t7>(0:Int))=true)<|
 aj (decide (t7>(0:Int))=true->decide (t7>(0:Int))=true)<|
 aj (decide (t7>(0:Int))=true->(0:Int)<=v10/\v10<(↑ss.length:Int))<|
 ab ((Option.rec c8 (fun val=>val) ss[v10.toNat]?)) fun (v11:(Int×Int)×Int×Int)=>
 aj (decide (t7>(0:Int))=true->decide (t7>(0:Int))=true)<|
 aj (decide (t7>(0:Int))=true->decide (t7>(0:Int))=true)<|
 aj (decide (t7>(0:Int))=true->decide (t7>(0:Int))=true)<|
 aj (decide (t7>(0:Int))=true->decide (t7>(0:Int))=true)<|
 aj (decide (t7>(0:Int))=true->decide (t7>(0:Int))=true)<|
 aj (decide (t7>(0:Int))=true->decide (t7>(0:Int))=true)<|
 aj (decide (t7>(0:Int))=true->decide (t7>(0:Int))=true)<|
 aj (decide (t7>(0:Int))=true->decide (t7>(0:Int))=true)<|
 ck (decide (t7>(0:Int))&&!decide (v11.1.1>=v0.1.1))<|
 ab (IntKind.i64.wrap (t7-(1:Int))) fun v12=>
 ck (decide (t7>(0:Int))&&!decide (v11.1.1>=v0.1.1))<|
 ck (decide (t7>(0:Int))&&!decide (v11.1.1>=v0.1.1))<|
 aj ((decide (t7>(0:Int))&&!decide (v11.1.1>=v0.1.1))=true->(0:Int)<=v12/\v12<(↑ss.length:Int))<|
 ab ((Option.rec c8 (fun val=>val) ss[v12.toNat]?)) fun (jt:(Int×Int)×Int×Int)=>
 ck (decide (t7>(0:Int))&&!decide (v11.1.1>=v0.1.1))<|
 ck (decide (t7>(0:Int))&&!decide (v11.1.1>=v0.1.1))<|
 ck (decide (t7>(0:Int))&&!decide (v11.1.1>=v0.1.1))<|
 ck (decide (t7>(0:Int))&&!decide (v11.1.1>=v0.1.1))<|
 ck (decide (t7>(0:Int))&&!decide (v11.1.1>=v0.1.1))<|
 bU (decide (t7>(0:Int))&&!decide (v11.1.1>=v0.1.1)) (EL jt.1 v0.1) (false,()) fun av=>
 aj (decide (t7>(0:Int))=true->decide (t7>(0:Int))=true)<|
 aj (decide (t7>(0:Int))=true->decide (v11.1.1>=v0.1.1)=false->(decide (t7>(0:Int))&&!decide (v11.1.1>=v0.1.1))=true)<|
 ab (decide (v11.1.1>=v0.1.1)||av.1) fun ic=>
 aj (decide (t7>(0:Int))=true->decide (t7>(0:Int))=true)<|
 ab (decide (t7>(0:Int))&&ic) fun gr=>
 ay gr (
 some (.inr (.inr (false,())))) (
 ab (IntKind.i64.wrap (t7+(1:Int))) fun v17=>
 some (.inl (ss,t5,t6,v17,()))))) (
 some (.inr (.inl (ss,()))))
def zbI(s:Tx):Option zbH:=ct (fun s:Tx=>Jc s.1 s.2.1 s.2.2.1 s.2.2.2.1) s
def Jd(ss:List aH):Option (Bool×Unit):=
 ao (zbI (ss,ss,(↑ss.length:Int),(0:Int),())) fun cA=>
 cC cA (fun t19=>
 some (decide ((↑t19.1.length:Int)<=(16:Int)),())) (fun Je=>
 some Je)
abbrev Ty:Type:=(List (Int×List aL))×(List (Int×List aL))×Int×Int×(List aL)×Int×Int×Int×(List aL)×Unit
abbrev zbJ:Type:=((List (Int×List aL))×(List (Int×List aL))×Int×Int×Unit)⊕(Bool×Unit)
def E3(ks t7:List (Int×List aL))(t8 t9:Int)(t40:List aL)(t41 t42 mT:Int)(ml:List aL):Option (Ty⊕zbJ):=
 ay (decide (t42<t41)) (
 aj ((0:Int)<=t42/\t42<(↑t40.length:Int))<|
 ab ((Option.rec ko (fun val=>val) t40[t42.toNat]?)) fun (v7:Int×cH×Int)=>
 ck (!decide (v7.1<(0:Int)))<|
 ck (!decide (v7.1<(0:Int)))<|
 aj (decide (v7.1<(0:Int))=false->(!decide (v7.1<(0:Int)))=true)<|
 ab (decide (v7.1<(0:Int))||decide (v7.1>=(4:Int))) fun v8=>
 ck (!v8)<|
 ck (!v8)<|
 cn v8<|
 ab (v8||decide (v7.2.2<(0:Int))) fun v9=>
 ck (!v9)<|
 ck (!v9)<|
 ck (!v9&&decide (t42>(0:Int)))<|
 ck (!v9&&decide (t42>(0:Int)))<|
 ab (IntKind.i64.wrap (t42-(1:Int))) fun v10=>
 ck (!v9&&decide (t42>(0:Int)))<|
 ck (!v9&&decide (t42>(0:Int)))<|
 aj ((!v9&&decide (t42>(0:Int)))=true->(0:Int)<=v10/\v10<(↑ml.length:Int))<|
 ab ((Option.rec ko (fun val=>val) ml[v10.toNat]?)) fun (v11:Int×cH×Int)=>
 ck (!v9&&decide (t42>(0:Int)))<|
 ck (!v9&&decide (t42>(0:Int)))<|
 ck (!v9&&decide (t42>(0:Int)))<|
 ck (!v9&&decide (t42>(0:Int)))<|
 ck (!v9&&decide (t42>(0:Int)))<|
 ck (!v9)<|
 aj ((!v9)=true->decide (t42>(0:Int))=true->(!v9&&decide (t42>(0:Int)))=true)<|
 ab (decide (t42>(0:Int))&&decide (v11.2.2>v7.2.2)) fun v12=>
 cn v9<|
 ab (v9||v12) fun jt=>
 ay jt (
 some (.inr (.inr (false,())))) (
 ab (IntKind.i64.wrap (t42+(1:Int))) fun gM=>
 some (.inl (ks,t7,t8,t9,t40,t41,gM,mT,ml,())))) (
 some (.inr (.inl (ks,t7,t8,t9,()))))
def NZ(s:Ty):Option zbJ:=ct (fun s:Ty=>E3 s.1 s.2.1 s.2.2.1 s.2.2.2.1 s.2.2.2.2.1 s.2.2.2.2.2.1 (q4 s).2.2.1 (q4 s).2.2.2.1 (q8 s).1) s
abbrev Tz:Type:=(List (Int×List aL))×(List (Int×List aL))×Int×Int×Unit
abbrev zbK:Type:=((List (Int×List aL))×Unit)⊕(Bool×Unit)
def Jf(ks t7:List (Int×List aL))(t8 t9:Int):Option (Tz⊕zbK):=
 ay (decide (t9<t8)) (
 aj ((0:Int)<=t9/\t9<(↑t7.length:Int))<|
 ab ((Option.rec ((0:Int),[]) (fun val=>val) t7[t9.toNat]?)) fun (v0:Int×List aL)=>
 aj (decide (t9>(0:Int))=true->decide (t9>(0:Int))=true)<|
 ab (IntKind.i64.wrap (t9-(1:Int))) fun v1=>
 aj (decide (t9>(0:Int))=true->decide (t9>(0:Int))=true)<|
 aj (decide (t9>(0:Int))=true->decide (t9>(0:Int))=true)<|
 aj (decide (t9>(0:Int))=true->(0:Int)<=v1/\v1<(↑ks.length:Int))<|
 ab ((Option.rec ((0:Int),[]) (fun val=>val) ks[v1.toNat]?)) fun (v2:Int×List aL)=>
 aj (decide (t9>(0:Int))=true->decide (t9>(0:Int))=true)<|
 aj (decide (t9>(0:Int))=true->decide (t9>(0:Int))=true)<|
 aj (decide (t9>(0:Int))=true->decide (t9>(0:Int))=true)<|
 aj (decide (t9>(0:Int))=true->decide (t9>(0:Int))=true)<|
 aj (decide (t9>(0:Int))=true->decide (t9>(0:Int))=true)<|
 aj (decide (t9>(0:Int))=true->decide (t9>(0:Int))=true)<|
 ab (decide (t9>(0:Int))&&decide (v2.1>=v0.1)) fun v3=>
 ck (!v3)<|
 ck (!v3)<|
 ck (!v3)<|
 ab ((↑v0.2.length:Int)==(0:Int)) fun v4=>
 cn v3<|
 ab (v3||v4) fun v5=>
 ck (!v5)<|
 ck (!v5)<|
 ck (!v5)<|
 cn v5<|
 ab (v5||decide ((↑v0.2.length:Int)>(8:Int))) fun v6=>
 ay v6 (
 some (.inr (.inr (false,())))) (
 ao (NZ (ks,t7,t8,t9,v0.2,(↑v0.2.length:Int),(0:Int),v0.1,v0.2,())) fun gN=>
 cC gN (fun t16=>
 ab (IntKind.i64.wrap (t16.2.2.2.1+(1:Int))) fun mn=>
 some (.inl (t16.1,t16.2.1,t16.2.2.1,mn,()))) (fun Jg=>
 some (.inr (.inr Jg))))) (
 some (.inr (.inl (ks,()))))
def zbL(s:Tz):Option zbK:=ct (fun s:Tz=>Jf s.1 s.2.1 s.2.2.1 s.2.2.2.1) s
def Jh(ks:List (Int×List aL)):Option (Bool×Unit):=
 ao (zbL (ks,ks,(↑ks.length:Int),(0:Int),())) fun cZ=>
 cC cZ (fun t20=>
 some (decide ((↑t20.1.length:Int)<=(96:Int)),())) (fun Ji=>
 some Ji)
def N0(x t1:Int×Int×Int×Int×Int):Option (Bool×Unit):=
 ab (x.1==t1.1) fun v0=>
 some (v0,())
abbrev TA:Type:=(List aM)×aM×Int×Int×Unit
abbrev zbM:Type:=Unit⊕(Int×Unit)
def Jj(s':List aM)(ec:Int×Int×Int×Int×Int)(t7 t8:Int):Option (TA⊕zbM):=
 ay (decide (t8<t7)) (
 aj ((0:Int)<=t8/\t8<(↑s'.length:Int))<|
 ab ((Option.rec ((0:Int),(0:Int),(0:Int),(0:Int),(0:Int)) (fun val=>val) s'[t8.toNat]?)) fun (v0:Int×Int×Int×Int×Int)=>
 ao (N0 v0 ec) fun y1=>
 ay y1.1 (
 some (.inr (.inr (t8,())))) (
 ab (IntKind.i64.wrap (t8+(1:Int))) fun v2=>
 some (.inl (s',ec,t7,v2,())))) (
 some (.inr (.inl ())))
def Jk(s:TA):Option zbM:=ct (fun s:TA=>Jj s.1 s.2.1 s.2.2.1 s.2.2.2.1) s
def N1(s':List aM)(ec:Int×Int×Int×Int×Int):Option (Int×Unit):=
 ao (Jk (s',ec,(↑s'.length:Int),(0:Int),())) fun y3=>
 cC y3 (fun t4=>
 some ((-1:Int),())) (fun r5=>
 some r5)
def Jl(s':List aM)(ec:Int×Int×Int×Int×Int):Option (Bool×Unit):=
 ao (N1 s' ec) fun y0=>
 some (decide (y0.1>=(0:Int)),())
abbrev TB:Type:=(List aM)×(List aM)×Int×Int×Unit
abbrev zbN:Type:=((List aM)×Unit)⊕(Bool×Unit)
def Jm(ps t5:List aM)(t6 t7:Int):Option (TB⊕zbN):=
 ay (decide (t7<t6)) (
 aj ((0:Int)<=t7/\t7<(↑t5.length:Int))<|
 ab ((Option.rec ((0:Int),(0:Int),(0:Int),(0:Int),(0:Int)) (fun val=>val) t5[t7.toNat]?)) fun (v0:Int×Int×Int×Int×Int)=>
 ab (IntKind.u32.wrap (lr IntKind.u32 v0.1 (65535:Int))) fun v1=>
 ab (IntKind.i64.wrap v1) fun v2=>
 ab (v0.2.1 != v2) fun v3=>
 ck (!v3)<|
 ck (!v3)<|
 cn v3<|
 ab (v3||decide (v0.2.2.1<(0:Int))) fun v4=>
 ck (!v4)<|
 ck (!v4)<|
 cn v4<|
 ab (v4||decide (v0.2.2.1>(65535:Int))) fun v5=>
 ck (!v5)<|
 ck (!v5)<|
 ck (!v5)<|
 bU (!v5) (kW v0.2.2.2.1) ((0:Int),()) fun y6=>
 ck (!v5)<|
 ck (!v5)<|
 ab (v0.2.2.2.1 != y6.1) fun v7=>
 cn v5<|
 ab (v5||v7) fun v8=>
 ck (!v8)<|
 ck (!v8)<|
 cn v8<|
 ab (v8||decide (v0.2.2.2.2<(0:Int))) fun v9=>
 ck (!v9)<|
 ck (!v9)<|
 cn v9<|
 ab (v9||decide (v0.2.2.2.2>(8:Int))) fun v10=>
 ay v10 (
 some (.inr (.inr (false,())))) (
 aj ((0:Int)<=(0:Int)/\(0:Int)<=t7/\t7<=(↑ps.length:Int))<|
 ao (Jl (cE (0:Nat) t7.toNat ps) v0) fun bY=>
 ay bY.1 (
 some (.inr (.inr (false,())))) (
 ab (IntKind.i64.wrap (t7+(1:Int))) fun v12=>
 some (.inl (ps,t5,t6,v12,()))))) (
 some (.inr (.inl (ps,()))))
def zbO(s:TB):Option zbN:=ct (fun s:TB=>Jm s.1 s.2.1 s.2.2.1 s.2.2.2.1) s
def Jn(ps:List aM):Option (Bool×Unit):=
 ao (zbO (ps,ps,(↑ps.length:Int),(0:Int),())) fun dR=>
 cC dR (fun t14=>
 some (decide ((↑t14.1.length:Int)<=(16:Int)),())) (fun sM=>
 some sM)
def xd(c:Int×Int×Int×Int):Option (Bool×Unit):=
 ab (c.2.2.2==(0:Int)) fun v0=>
 ck (!v0)<|
 ck (!v0)<|
 ab (c.2.2.2==(1:Int)) fun v1=>
 cn v0<|
 ab (v0||v1) fun v2=>
 some (v2,())
def N2(c:Int×Int×Int×Int)(t1:Int):Option (Bool×Unit):=
 ab (c.1==t1) fun v0=>
 ck v0<|
 bU v0 (xd c) (false,()) fun y1=>
 ck v0<|
 ab (v0&&y1.1) fun v2=>
 some (v2,())
abbrev TC:Type:=(List (Int×Int×Int×Int))×Int×Int×Int×Unit
abbrev zbP:Type:=Unit⊕(Int×Unit)
def Jo(s':List (Int×Int×Int×Int))(ec t7 t8:Int):Option (TC⊕zbP):=
 ay (decide (t8<t7)) (
 aj ((0:Int)<=t8/\t8<(↑s'.length:Int))<|
 ab ((Option.rec ((0:Int),(0:Int),(0:Int),(0:Int)) (fun val=>val) s'[t8.toNat]?)) fun (v0:Int×Int×Int×Int)=>
 ao (N2 v0 ec) fun y1=>
 ay y1.1 (
 some (.inr (.inr (t8,())))) (
 ab (IntKind.i64.wrap (t8+(1:Int))) fun v2=>
 some (.inl (s',ec,t7,v2,())))) (
 some (.inr (.inl ())))
def Jp(s:TC):Option zbP:=ct (fun s:TC=>Jo s.1 s.2.1 s.2.2.1 s.2.2.2.1) s
def N3(s':List (Int×Int×Int×Int))(ec:Int):Option (Int×Unit):=
 ao (Jp (s',ec,(↑s'.length:Int),(0:Int),())) fun y3=>
 cC y3 (fun t4=>
 some ((-1:Int),())) (fun r5=>
 some r5)
def yU(cs:List (Int×Int×Int×Int))(a':Int):Option (Int×Unit):=
 ao (N3 cs a') fun y0=>
 some (y0.1,())
abbrev TD:Type:=(List (Int×Int×Int×Int))×(List (Int×Int×Int×Int))×Int×Int×Unit
abbrev zbQ:Type:=((List (Int×Int×Int×Int))×Unit)⊕(Bool×Unit)
def Jq(cs t5:List (Int×Int×Int×Int))(t6 t7:Int):Option (TD⊕zbQ):=
 ay (decide (t7<t6)) (
 aj ((0:Int)<=t7/\t7<(↑t5.length:Int))<|
 ab ((Option.rec ((0:Int),(0:Int),(0:Int),(0:Int)) (fun val=>val) t5[t7.toNat]?)) fun (v0:Int×Int×Int×Int)=>
 ck (!decide (v0.2.2.2<(0:Int)))<|
 ck (!decide (v0.2.2.2<(0:Int)))<|
 aj (decide (v0.2.2.2<(0:Int))=false->(!decide (v0.2.2.2<(0:Int)))=true)<|
 ab (decide (v0.2.2.2<(0:Int))||decide (v0.2.2.2>(5:Int))) fun v1=>
 ck (!v1)<|
 ck (!v1)<|
 ck (!v1)<|
 bU (!v1) (kW v0.2.1) ((0:Int),()) fun y2=>
 ck (!v1)<|
 ck (!v1)<|
 ab (v0.2.1 != y2.1) fun v3=>
 cn v1<|
 ab (v1||v3) fun v4=>
 ck (!v4)<|
 ck (!v4)<|
 ck (!v4)<|
 bU (!v4) (kW v0.2.2.1) ((0:Int),()) fun y5=>
 ck (!v4)<|
 ck (!v4)<|
 ab (v0.2.2.1 != y5.1) fun v6=>
 cn v4<|
 ab (v4||v6) fun v7=>
 ck (!v7)<|
 bU (!v7) (xd v0) (false,()) fun y8=>
 ck (!v7)<|
 ck (!v7&&y8.1)<|
 ck (!v7&&y8.1)<|
 ab (v0.2.2.1 != (0:Int)) fun v9=>
 ck (!v7&&y8.1)<|
 ck (!v7&&y8.1&&!v9)<|
 ck (!v7&&y8.1&&!v9)<|
 ck (!v7&&y8.1&&!v9)<|
 bU (!v7&&y8.1&&!v9) (yU cs v0.1) ((0:Int),()) fun fL=>
 ck (!v7&&y8.1&&!v9)<|
 ck (!v7&&y8.1&&!v9)<|
 ab (fL.1 != t7) fun v11=>
 ck (!v7&&y8.1)<|
 aj ((!v7&&y8.1)=true->v9=false->(!v7&&y8.1&&!v9)=true)<|
 ab (v9||v11) fun v12=>
 ck (!v7)<|
 aj ((!v7)=true->y8.1=true->(!v7&&y8.1)=true)<|
 ab (y8.1&&v12) fun jt=>
 cn v7<|
 ab (v7||jt) fun gM=>
 ck (!gM)<|
 bU (!gM) (xd v0) (false,()) fun gN=>
 ck (!gM)<|
 ck (!gM)<|
 ck (!gM&&!gN.1)<|
 ck (!gM&&!gN.1)<|
 ck (!gM&&!gN.1)<|
 ck (!gM&&!gN.1)<|
 ck (!gM)<|
 aj ((!gM)=true->(!gN.1)=true->(!gM&&!gN.1)=true)<|
 ab (!gN.1&&decide (v0.2.2.1<v0.2.1)) fun gr=>
 cn gM<|
 ab (gM||gr) fun v17=>
 ay v17 (
 some (.inr (.inr (false,())))) (
 ab (IntKind.i64.wrap (t7+(1:Int))) fun mn=>
 some (.inl (cs,t5,t6,mn,())))) (
 some (.inr (.inl (cs,()))))
def zbR(s:TD):Option zbQ:=ct (fun s:TD=>Jq s.1 s.2.1 s.2.2.1 s.2.2.2.1) s
def Jr(cs:List (Int×Int×Int×Int)):Option (Bool×Unit):=
 ao (zbR (cs,cs,(↑cs.length:Int),(0:Int),())) fun cZ=>
 cC cZ (fun t20=>
 some (decide ((↑t20.1.length:Int)<=(16:Int)),())) (fun Ji=>
 some Ji)
def E4(s':Int×Int×(List aX)×(List aH)×(List (Int×List aL))×(List aM)×List (Int×Int×Int×Int)):Option (Bool×Unit):=
 ao (kW s'.1) fun y0=>
 ab (s'.1==y0.1) fun v1=>
 ck v1<|
 ck v1<|
 ck v1<|
 ab (v1&&decide (s'.2.1>=(0:Int))) fun v2=>
 ck v2<|
 ck v2<|
 ck v2<|
 ab (v2&&decide (s'.2.1<=(65535:Int))) fun v3=>
 ck v3<|
 ck v3<|
 bU v3 (Jb s'.2.2.1) (false,()) fun y4=>
 ck v3<|
 ab (v3&&y4.1) fun v5=>
 ck v5<|
 ck v5<|
 bU v5 (Jd s'.2.2.2.1) (false,()) fun y6=>
 ck v5<|
 ab (v5&&y6.1) fun v7=>
 ck v7<|
 ck v7<|
 bU v7 (Jh s'.2.2.2.2.1) (false,()) fun y8=>
 ck v7<|
 ab (v7&&y8.1) fun v9=>
 ck v9<|
 ck v9<|
 bU v9 (Jn s'.2.2.2.2.2.1) (false,()) fun fL=>
 ck v9<|
 ab (v9&&fL.1) fun v11=>
 ck v11<|
 ck v11<|
 bU v11 (Jr (q4 s').2.2) (false,()) fun mR=>
 ck v11<|
 ab (v11&&mR.1) fun jt=>
 some (jt,())
def E5(b:List Int):Option ((Int×Int×(List aX)×(List aH)×(List (Int×List aL))×(List aM)×List (Int×Int×Int×Int))×Bool×Unit):=
 ao (vC ((b,false))) fun y0=>
 ao (rr y0.2.1) fun y1=>
 ao (IZ y1.2.1) fun y2=>
 ao (I1 y2.1) fun y3=>
 ao (I5 y3.1) fun y4=>
 ao (I7 y4.1) fun y5=>
 ao (I9 y5.1) fun y6=>
 ck (!y6.1.2)<|
 ck (!y6.1.2)<|
 ck (!y6.1.2)<|
 ck (!y6.1.2)<|
 ck (!y6.1.2)<|
 cn y6.1.2<|
 ab (y6.1.2||decide ((↑y6.1.1.length:Int)>(0:Int))) fun v7=>
 ck (!v7)<|
 bU (!v7) (E4 ((y0.1,y1.1,y2.2.1,y3.2.1,y4.2.1,y5.2.1,y6.2.1))) (false,()) fun y8=>
 ck (!v7)<|
 cn v7<|
 ab (v7||!y8.1) fun v9=>
 ay v9 (
 some (((0:Int),(0:Int),[],[],[],[],[]),false,())) (
 some ((y0.1,y1.1,y2.2.1,y3.2.1,y4.2.1,y5.2.1,y6.2.1),true,()))
def sN(e:Int×aX×(Int×Int)×Int×cH×Int):Option ((List Int)×Unit):=
 ab (IntKind.u8.wrap e.1) fun v0=>
 ab (e.1==(1:Int)) fun v1=>
 ay v1 (
 ao (xc e.2.1 ([v0])) fun y2=>
 some (y2.1,())) (
 ab (e.1==(3:Int)) fun v3=>
 ay v3 (
 ao (BC e.2.2.1 ([v0])) fun y4=>
 some (y4.1,())) (
 ab (e.1==(4:Int)) fun v5=>
 ay v5 (
 ao (BC e.2.2.1 ([v0])) fun y6=>
 some (y6.1,())) (
 ab (e.1==(5:Int)) fun v7=>
 ay v7 (
 ao (rq e.2.1.1 ([v0])) fun y8=>
 ab (IntKind.u8.wrap e.2.2.2.1) fun v9=>
 aj (room (1:Nat) (y8.1.length+[v9].length))<|
 aj ((0:Int)<=(0:Int)/\(0:Int)<=(6:Int)/\(6:Int)<=(6:Int))<|
 aj (room (1:Nat) ((y8.1++[v9]).length+[e.2.2.2.2.1.1,e.2.2.2.2.1.2.1,e.2.2.2.2.1.2.2.1,e.2.2.2.2.1.2.2.2.1,e.2.2.2.2.1.2.2.2.2.1,e.2.2.2.2.1.2.2.2.2.2].length))<|
 some (y8.1++[v9]++[e.2.2.2.2.1.1,e.2.2.2.2.1.2.1,e.2.2.2.2.1.2.2.1,e.2.2.2.2.1.2.2.2.1,e.2.2.2.2.1.2.2.2.2.1,e.2.2.2.2.1.2.2.2.2.2],())) (
 ab (e.1==(2:Int)) fun v10=>
 ay v10 (
 ao (rq e.2.1.1 ([v0])) fun bY=>
 some (bY.1,())) (
 ab (e.1==(6:Int)) fun v12=>
 ay v12 (
 ao (rq e.2.1.1 ([v0])) fun dR=>
 some (dR.1,())) (
 ab (e.1==(7:Int)) fun gM=>
 ay gM (
 ao (rq e.2.1.1 ([v0])) fun gN=>
 some (gN.1,())) (
 some ([v0],()))))))))
def E6(n:Int):Option (cH×Unit):=
 ay (decide (n>=(128:Int))) (
 some (cJ,())) (
 aj (¬(3:Int)=(0:Int))<|
 ab (n.tmod (3:Int)) fun v0=>
 ab (IntKind.u8.wrap ((1:Int)+v0)) fun v1=>
 some (((2:Int),(0:Int),(0:Int),(0:Int),(0:Int),v1),()))
def Js(a':Int×Int×Int×Int×Int×Int):Option (cw×Unit):=
 aj (¬(16:Int)=(0:Int))<|
 ab (a'.1.tmod (16:Int)) fun v0=>
 aj ((0:Int)<=v0/\v0<(16:Int))<|
 aj (v0.toNat<(16:Nat))<|
 aj (¬(16:Int)=(0:Int))<|
 ab (a'.2.1.tmod (16:Int)) fun v1=>
 ab (IntKind.u32.wrap v1) fun v2=>
 ab (IntKind.u32.wrap ((167772160:Int)+v2)) fun v3=>
 aj (¬(8:Int)=(0:Int))<|
 ab (a'.2.2.2.2.1.tmod (8:Int)) fun v4=>
 aj (¬(8:Int)=(0:Int))<|
 ab (a'.2.2.2.2.1.tmod (8:Int)) fun v5=>
 ab (IntKind.u8.wrap (v5+(1:Int))) fun v6=>
 aj ((0:Int)<=v4/\v4<=v6/\v6<=(8:Int))<|
 aj ((↑((1:Nat)+(cE v4.toNat v6.toNat [(97:UInt8),(98:UInt8),(99:UInt8),(100:UInt8),(101:UInt8),(102:UInt8),(103:UInt8),(104:UInt8)]).length):Int)<=(9223372036854775807:Int))<|
 ab ([(111:UInt8)]++cE v4.toNat v6.toNat [(97:UInt8),(98:UInt8),(99:UInt8),(100:UInt8),(101:UInt8),(102:UInt8),(103:UInt8),(104:UInt8)]) fun (v7:List UInt8)=>
 ao (E6 a'.2.2.2.1) fun y8=>
 aj (¬(64:Int)=(0:Int))<|
 ab (a'.2.1.tmod (64:Int)) fun v9=>
 ab (IntKind.u32.wrap v9) fun v10=>
 ab (IntKind.u32.wrap ((167772160:Int)+v10)) fun v11=>
 aj (¬(5:Int)=(0:Int))<|
 ab (a'.2.2.1.tmod (5:Int)) fun v12=>
 ab (IntKind.u8.wrap ((8:Int)+v12)) fun jt=>
 ao (IG v11 jt) fun av=>
 aj (¬(4:Int)=(0:Int))<|
 ab (a'.2.2.2.2.1.tmod (4:Int)) fun ic=>
 ab (IntKind.i64.wrap ic) fun gr=>
 aj (¬(2:Int)=(0:Int))<|
 ab (IntKind.u8.wrap (a'.2.2.2.1.tdiv (2:Int))) fun v17=>
 ao (E6 v17) fun cA=>
 some (([(0:Int),(0:Int),(0:Int),(1:Int),(1:Int),(2:Int),(3:Int),(4:Int),(5:Int),(5:Int),(5:Int),(6:Int),(6:Int),(7:Int),(5:Int),(8:Int)].getD v0.toNat (0:Int),(v3,v7,y8.1),av.1,gr,cA.1,(0:Int)),())
abbrev TE:Type:=Int×(List cH)×Int×Int×(List cw)×Int×Int×Int×Int×Int×Int×Int×Int×(List UInt8)×Int×Int×Int×Int×Int×Int×Int×Int×Int×Int×Int×Int×Int×Int×Int×Int×Unit
abbrev zbS:Type:=((List cH)×Int×Int×(List cw)×Unit)⊕((List cw)×Unit)
def BD(k:Int)(t12:List cH)(t13 t14:Int)(out:List cw)(zp0 zp1 zp2 zp3 zp4 zbT N4 TF:Int)(TG:List UInt8)(TH TI TJ TK TL TM TN TO TP TQ TR TS TT TU TV TW:Int):Option (TE⊕zbS):=
 aj (¬(12:Int)=(0:Int))<|
 ab (zbT.tmod (12:Int)) fun v2=>
 ab (IntKind.i64.wrap v2) fun v3=>
 aj (decide (k<v3)=true->decide (k<v3)=true)<|
 aj (decide (k<v3)=true->decide (k<v3)=true)<|
 ab (N4==(0:Int)) fun v4=>
 aj (decide (k<v3)=true->decide (k<v3)=true)<|
 ab (decide (k<v3)&&v4) fun v5=>
 ay v5 (
 aj (room (80:Nat) (out.length+[(N4,(TF,TG,TH,TI,TJ,TK,TL,TM),(TN,TO),TP,(TQ,TR,TS,TT,TU,TV),TW)].length))<|
 ab (IntKind.i64.wrap (k+(1:Int))) fun v6=>
 some (.inl (v6,t12,t13,t14,out++[(N4,(TF,TG,TH,TI,TJ,TK,TL,TM),(TN,TO),TP,(TQ,TR,TS,TT,TU,TV),TW)],zp0,zp1,zp2,zp3,zp4,zbT,N4,TF,TG,TH,TI,TJ,TK,TL,TM,TN,TO,TP,TQ,TR,TS,TT,TU,TV,TW,()))) (
 some (.inr (.inl (t12,t13,t14,out,()))))
def Jt(s:TE):Option zbS:=ct (fun s:TE=>BD s.1 s.2.1 s.2.2.1 s.2.2.2.1 s.2.2.2.2.1 s.2.2.2.2.2.1 (q4 s).2.2.1 (q4 s).2.2.2.1 (q8 s).1 (q8 s).2.1 (q8 s).2.2.1 (q8 s).2.2.2.1 (ax s).1 (ax s).2.1 (ax s).2.2.1 (ax s).2.2.2.1 (aA s).1 (aA s).2.1 (aA s).2.2.1 (aA s).2.2.2.1 (aG s).1 (aG s).2.1 (aG s).2.2.1 (aG s).2.2.2.1 (aJ s).1 (aJ s).2.1 (aJ s).2.2.1 (aJ s).2.2.2.1 (eD s).1 (eD s).2.1) s
abbrev TX:Type:=(List cH)×Int×Int×(List cw)×Unit
abbrev zbU:Type:=((List cw)×Unit)⊕((List cw)×Unit)
def Ju(t12:List cH)(t13 t14:Int)(out:List cw):Option (TX⊕zbU):=
 ay (decide (t14<t13)) (
 aj ((0:Int)<=t14/\t14<(↑t12.length:Int))<|
 ab ((Option.rec cJ (fun val=>val) t12[t14.toNat]?)) fun (v0:Int×Int×Int×Int×Int×Int)=>
 ao (Js v0) fun y1=>
 aj (room (80:Nat) (out.length+[y1.1].length))<|
 ao (Jt ((0:Int),t12,t13,t14,out++[y1.1],v0.1,v0.2.1,v0.2.2.1,v0.2.2.2.1,v0.2.2.2.2.1,v0.2.2.2.2.2,y1.1.1,y1.1.2.1.1,y1.1.2.1.2.1,y1.1.2.1.2.2.1,y1.1.2.1.2.2.2.1,y1.1.2.1.2.2.2.2.1,y1.1.2.1.2.2.2.2.2.1,(q4 y1.1.2.1).2.2.1,(q4 y1.1.2.1).2.2.2,y1.1.2.2.1.1,y1.1.2.2.1.2,y1.1.2.2.2.1,y1.1.2.2.2.2.1.1,y1.1.2.2.2.2.1.2.1,y1.1.2.2.2.2.1.2.2.1,y1.1.2.2.2.2.1.2.2.2.1,y1.1.2.2.2.2.1.2.2.2.2.1,y1.1.2.2.2.2.1.2.2.2.2.2,y1.1.2.2.2.2.2,())) fun y7=>
 cC y7 (fun t8=>
 ab (IntKind.i64.wrap (t8.2.2.1+(1:Int))) fun v10=>
 some (.inl (t8.1,t8.2.1,v10,t8.2.2.2.1,()))) (fun r9=>
 some (.inr (.inr r9)))) (
 some (.inr (.inl (out,()))))
def N5(s:TX):Option zbU:=ct (fun s:TX=>Ju s.1 s.2.1 s.2.2.1 s.2.2.2.1) s
def Jv(eE:List cH):Option ((List cw)×Unit):=
 aj ((0:Int)<=(0:Int)/\((0:Int)<=if (60:Int)<(↑eE.length:Int) then (60:Int) else (↑eE.length:Int))/\(if (60:Int)<(↑eE.length:Int) then (60:Int) else (↑eE.length:Int))<=(↑eE.length:Int))<|
 ao (N5 (cE (0:Nat) (if (60:Int)<(↑eE.length:Int) then (60:Int) else (↑eE.length:Int)).toNat eE,(↑(cE (0:Nat) (if (60:Int)<(↑eE.length:Int) then (60:Int) else (↑eE.length:Int)).toNat eE).length:Int),(0:Int),[],())) fun bY=>
 cC bY (fun t12=>
 some (t12.1,())) (fun BE=>
 some BE)
end
end Go.Tr
