/- The functions that these laws reach, as Lean functions: printed by a program of this session's. Conditions: none. -/
import Derived.Test.YtploofmfghjijaaGreatBD
import Derived.Test.YtploofmfghjijaaGreatBE
import Derived.Test.YtploofmfghjijaaGreatMacD
import Derived.Test.YtploofmfghjijaaGreatCodec1D
import Derived.Test.YtploofmfghjijaaGreatCodec2D
import Derived.Test.YtploofmfghjijaaGreatSweepD
import Derived.Test.YtploofmfghjijaaGreatSweep2D
namespace Go.Tr
open Go
noncomputable section
set_option linter.unusedVariables false
set_option maxRecDepth 100000
def yZ(xs:List (Int×Int×Int×Int)):Option (List (Int×Int×Int×Int)×Unit):=
 clone 32 xs
def za(now t:Int):Option (Int×Unit):=
 ao (kW now) fun y0=>
 ao (kW t) fun y1=>
 ab (IntKind.i64.wrap (y0.1-y1.1)) fun v2=>
 some (v2,())
abbrev Ua:Type:=Int×Int×Int×bD×(List (Int×Int×Int×Int))×Unit
abbrev zb6:Type:=((List (Int×Int×Int×Int))×Unit)⊕((List (Int×Int×Int×Int))×Unit)
def BG(now t13 t14:Int)(f:Int×Int×Int×Int×Int×Int×Int×Int×Int)(out:List (Int×Int×Int×Int)):Option (Ua⊕zb6):=
 ay (decide (t14<t13)) (
 aj ((0:Int)<=t14/\t14<(↑out.length:Int))<|
 aj (t14.toNat<out.length)<|
 ab ((out.getD t14.toNat ((0:Int),(0:Int),(0:Int),(0:Int))).2.2.2==(0:Int)) fun v1=>
 ck v1<|
 ck v1<|
 ck v1<|
 bU v1 (za now ((out.getD t14.toNat ((0:Int),(0:Int),(0:Int),(0:Int))).2.1)) ((0:Int),()) fun y2=>
 ck v1<|
 ck v1<|
 ck v1<|
 ck v1<|
 ab (v1&&decide (y2.1>=(q4 f).2.2.2.1)) fun v3=>
 ay v3 (
 ao (kW now) fun y4=>
 aj ((0:Int)<=t14/\t14<(↑out.length:Int))<|
 aj (t14.toNat<out.length)<|
 aj ((0:Int)<=t14/\t14<(↑(out.set t14.toNat ((out.getD t14.toNat ((0:Int),(0:Int),(0:Int),(0:Int))).1,(out.getD t14.toNat ((0:Int),(0:Int),(0:Int),(0:Int))).2.1,(out.getD t14.toNat ((0:Int),(0:Int),(0:Int),(0:Int))).2.2.1,(3:Int))).length:Int))<|
 aj (t14.toNat<(out.set t14.toNat ((out.getD t14.toNat ((0:Int),(0:Int),(0:Int),(0:Int))).1,(out.getD t14.toNat ((0:Int),(0:Int),(0:Int),(0:Int))).2.1,(out.getD t14.toNat ((0:Int),(0:Int),(0:Int),(0:Int))).2.2.1,(3:Int))).length)<|
 ab (IntKind.i64.wrap (t14+(1:Int))) fun v5=>
 some (.inl (now,t13,v5,f,(out.set t14.toNat ((out.getD t14.toNat ((0:Int),(0:Int),(0:Int),(0:Int))).1,(out.getD t14.toNat ((0:Int),(0:Int),(0:Int),(0:Int))).2.1,(out.getD t14.toNat ((0:Int),(0:Int),(0:Int),(0:Int))).2.2.1,(3:Int))).set t14.toNat (((out.set t14.toNat ((out.getD t14.toNat ((0:Int),(0:Int),(0:Int),(0:Int))).1,(out.getD t14.toNat ((0:Int),(0:Int),(0:Int),(0:Int))).2.1,(out.getD t14.toNat ((0:Int),(0:Int),(0:Int),(0:Int))).2.2.1,(3:Int))).getD t14.toNat ((0:Int),(0:Int),(0:Int),(0:Int))).1,((out.set t14.toNat ((out.getD t14.toNat ((0:Int),(0:Int),(0:Int),(0:Int))).1,(out.getD t14.toNat ((0:Int),(0:Int),(0:Int),(0:Int))).2.1,(out.getD t14.toNat ((0:Int),(0:Int),(0:Int),(0:Int))).2.2.1,(3:Int))).getD t14.toNat ((0:Int),(0:Int),(0:Int),(0:Int))).2.1,y4.1,((out.set t14.toNat ((out.getD t14.toNat ((0:Int),(0:Int),(0:Int),(0:Int))).1,(out.getD t14.toNat ((0:Int),(0:Int),(0:Int),(0:Int))).2.1,(out.getD t14.toNat ((0:Int),(0:Int),(0:Int),(0:Int))).2.2.1,(3:Int))).getD t14.toNat ((0:Int),(0:Int),(0:Int),(0:Int))).2.2.2),()))) (
 ab (IntKind.i64.wrap (t14+(1:Int))) fun v6=>
 some (.inl (now,t13,v6,f,out,())))) (
 some (.inr (.inl (out,()))))
def Ub(s:Ua):Option zb6:=ct (fun s:Ua=>BG s.1 s.2.1 s.2.2.1 s.2.2.2.1 s.2.2.2.2.1) s
def JJ(f:Int×Int×Int×Int×Int×Int×Int×Int×Int)(cs:List (Int×Int×Int×Int))(now:Int):Option ((List (Int×Int×Int×Int))×Unit):=
 ao (yZ cs) fun y0=>
 ao (Ub (now,(↑y0.1.length:Int),(0:Int),f,y0.1,())) fun y7=>
 cC y7 (fun t8=>
 some (t8.1,())) (fun r9=>
 some r9)
def Oe(k:Int)(t1:List aX)(t2:Int):Option (Bool×Unit):=
 aj ((0:Int)<=k/\k<(↑(List.length t1):Int))<|
 ab ((Option.rec fC (fun val=>val) t1[k.toNat]?)) fun (v0:Int×(List UInt8)×Int×Int×Int×Int×Int×Int)=>
 some (decide (v0.1>=t2),())
abbrev Uc:Type:=(List aX)×Int×Int×Int×Unit
abbrev zb7:Type:=(Int×Unit)⊕(Int×Unit)
def BH(ec:List aX)(mU i j:Int):Option (Uc⊕zb7):=
 ay (decide (i<j)) (
 ab (IntKind.i64.wrap (i+j)) fun v0=>
 ab (IntKind.u64.wrap v0) fun v1=>
 aj ((0:Int)<=(1:Int))<|
 ab (rZ IntKind.u64 v1 (1:Int)) fun v2=>
 ab (IntKind.i64.wrap v2) fun v3=>
 ao (Oe v3 ec mU) fun y4=>
 ay (!y4.1) (
 ab (IntKind.i64.wrap (v3+(1:Int))) fun v5=>
 some (.inl (ec,mU,v5,j,()))) (
 some (.inl (ec,mU,i,v3,())))) (
 some (.inr (.inl (i,()))))
def zb8(s:Uc):Option zb7:=ct (fun s:Uc=>BH s.1 s.2.1 s.2.2.1 s.2.2.2.1) s
def JK(n:Int)(ec:List aX)(mU:Int):Option (Int×Unit):=
 ao (zb8 (ec,mU,(0:Int),n,())) fun y6=>
 cC y6 (fun t7=>
 some (t7.1,())) (fun r8=>
 some r8)
def BI(hs:List aX)(a':Int):Option (Int×Bool×Unit):=
 ao (JK ((↑hs.length:Int)) hs a') fun y0=>
 aj (decide (y0.1<(↑hs.length:Int))=true->decide (y0.1<(↑hs.length:Int))=true)<|
 aj (decide (y0.1<(↑hs.length:Int))=true->decide (y0.1<(↑hs.length:Int))=true)<|
 aj (decide (y0.1<(↑hs.length:Int))=true->(0:Int)<=y0.1/\y0.1<(↑hs.length:Int))<|
 ab ((Option.rec fC (fun val=>val) hs[y0.1.toNat]?)) fun (v1:Int×(List UInt8)×Int×Int×Int×Int×Int×Int)=>
 aj (decide (y0.1<(↑hs.length:Int))=true->decide (y0.1<(↑hs.length:Int))=true)<|
 aj (decide (y0.1<(↑hs.length:Int))=true->decide (y0.1<(↑hs.length:Int))=true)<|
 aj (decide (y0.1<(↑hs.length:Int))=true->decide (y0.1<(↑hs.length:Int))=true)<|
 aj (decide (y0.1<(↑hs.length:Int))=true->decide (y0.1<(↑hs.length:Int))=true)<|
 ab (v1.1==a') fun v2=>
 aj (decide (y0.1<(↑hs.length:Int))=true->decide (y0.1<(↑hs.length:Int))=true)<|
 ab (decide (y0.1<(↑hs.length:Int))&&v2) fun v3=>
 some (y0.1,v3,())
def E9(hs:List aX)(a':Int):Option (aX×Bool×Unit):=
 ao (BI hs a') fun y0=>
 ay y0.2.1 (
 aj ((0:Int)<=y0.1/\y0.1<(↑hs.length:Int))<|
 ab ((Option.rec fC (fun val=>val) hs[y0.1.toNat]?)) fun (v1:Int×(List UInt8)×Int×Int×Int×Int×Int×Int)=>
 some (v1,true,())) (
 some (fC,false,()))
def Of(k:Int)(t1:List (Int×List aL))(t2:Int):Option (Bool×Unit):=
 aj ((0:Int)<=k/\k<(↑(List.length t1):Int))<|
 ab ((Option.rec ((0:Int),[]) (fun val=>val) t1[k.toNat]?)) fun (v0:Int×List aL)=>
 some (decide (v0.1>=t2),())
abbrev Ud:Type:=(List (Int×List aL))×Int×Int×Int×Unit
abbrev zb9:Type:=(Int×Unit)⊕(Int×Unit)
def BJ(ec:List (Int×List aL))(mU i j:Int):Option (Ud⊕zb9):=
 ay (decide (i<j)) (
 ab (IntKind.i64.wrap (i+j)) fun v0=>
 ab (IntKind.u64.wrap v0) fun v1=>
 aj ((0:Int)<=(1:Int))<|
 ab (rZ IntKind.u64 v1 (1:Int)) fun v2=>
 ab (IntKind.i64.wrap v2) fun v3=>
 ao (Of v3 ec mU) fun y4=>
 ay (!y4.1) (
 ab (IntKind.i64.wrap (v3+(1:Int))) fun v5=>
 some (.inl (ec,mU,v5,j,()))) (
 some (.inl (ec,mU,i,v3,())))) (
 some (.inr (.inl (i,()))))
def zca(s:Ud):Option zb9:=ct (fun s:Ud=>BJ s.1 s.2.1 s.2.2.1 s.2.2.2.1) s
def JL(n:Int)(ec:List (Int×List aL))(mU:Int):Option (Int×Unit):=
 ao (zca (ec,mU,(0:Int),n,())) fun y6=>
 cC y6 (fun t7=>
 some (t7.1,())) (fun r8=>
 some r8)
def BK(ks:List (Int×List aL))(a':Int):Option (Int×Bool×Unit):=
 ao (JL ((↑ks.length:Int)) ks a') fun y0=>
 aj (decide (y0.1<(↑ks.length:Int))=true->decide (y0.1<(↑ks.length:Int))=true)<|
 aj (decide (y0.1<(↑ks.length:Int))=true->decide (y0.1<(↑ks.length:Int))=true)<|
 aj (decide (y0.1<(↑ks.length:Int))=true->(0:Int)<=y0.1/\y0.1<(↑ks.length:Int))<|
 ab ((Option.rec ((0:Int),[]) (fun val=>val) ks[y0.1.toNat]?)) fun (v1:Int×List aL)=>
 aj (decide (y0.1<(↑ks.length:Int))=true->decide (y0.1<(↑ks.length:Int))=true)<|
 aj (decide (y0.1<(↑ks.length:Int))=true->decide (y0.1<(↑ks.length:Int))=true)<|
 aj (decide (y0.1<(↑ks.length:Int))=true->decide (y0.1<(↑ks.length:Int))=true)<|
 aj (decide (y0.1<(↑ks.length:Int))=true->decide (y0.1<(↑ks.length:Int))=true)<|
 ab (v1.1==a') fun v2=>
 aj (decide (y0.1<(↑ks.length:Int))=true->decide (y0.1<(↑ks.length:Int))=true)<|
 ab (decide (y0.1<(↑ks.length:Int))&&v2) fun v3=>
 some (y0.1,v3,())
def Fa(ks:List (Int×List aL))(a':Int):Option ((List aL)×Unit):=
 ao (BK ks a') fun y0=>
 ay y0.2.1 (
 aj ((0:Int)<=y0.1/\y0.1<(↑ks.length:Int))<|
 ab ((Option.rec ((0:Int),[]) (fun val=>val) ks[y0.1.toNat]?)) fun (v1:Int×List aL)=>
 aj (room (24:Nat) v1.2.length)<|
 some (v1.2,())) (
 some ([],()))
def vE(now t n:Int):Option (Bool×Unit):=
 ao (za now t) fun y0=>
 aj (decide (y0.1>=(0:Int))=true->decide (y0.1>=(0:Int))=true)<|
 aj (decide (y0.1>=(0:Int))=true->decide (y0.1>=(0:Int))=true)<|
 bU (decide (y0.1>=(0:Int))) (za now t) ((0:Int),()) fun y1=>
 aj (decide (y0.1>=(0:Int))=true->decide (y0.1>=(0:Int))=true)<|
 aj (decide (y0.1>=(0:Int))=true->decide (y0.1>=(0:Int))=true)<|
 aj (decide (y0.1>=(0:Int))=true->decide (y0.1>=(0:Int))=true)<|
 ab (decide (y0.1>=(0:Int))&&decide (y1.1<n)) fun v2=>
 some (v2,())
abbrev Ue:Type:=Int×(List aL)×Int×Int×(List aL)×bD×Unit
abbrev zcb:Type:=((List aL)×Unit)⊕((List aL)×Unit)
def Fb(now:Int)(t19:List aL)(t20 t21:Int)(out:List aL)(c:Int×Int×Int×Int×Int×Int×Int×Int×Int):Option (Ue⊕zcb):=
 ay (decide (t21<t20)) (
 aj ((0:Int)<=t21/\t21<(↑t19.length:Int))<|
 ab ((Option.rec ko (fun val=>val) t19[t21.toNat]?)) fun (v2:Int×cH×Int)=>
 ao (vE now v2.2.2 c.1) fun y3=>
 ay y3.1 (
 aj (room (24:Nat) (out.length+[v2].length))<|
 ab (IntKind.i64.wrap (t21+(1:Int))) fun v4=>
 some (.inl (now,t19,t20,v4,out++[v2],c,()))) (
 ab (IntKind.i64.wrap (t21+(1:Int))) fun v5=>
 some (.inl (now,t19,t20,v5,out,c,())))) (
 some (.inr (.inl (out,()))))
def zcc(s:Ue):Option zcb:=ct (fun s:Ue=>Fb s.1 s.2.1 s.2.2.1 s.2.2.2.1 s.2.2.2.2.1 s.2.2.2.2.2.1) s
def Fc(c:Int×Int×Int×Int×Int×Int×Int×Int×Int)(ss:List aL)(now:Int):Option ((List aL)×Unit):=
 ab (IntKind.i64.wrap ((↑ss.length:Int)-if c.2.2.1>(0:Int) then c.2.2.1 else (0:Int))) fun v0=>
 ab (IntKind.i64.wrap (v0-(1:Int))) fun v1=>
 aj (((0:Int)<=if v1>(0:Int) then v1 else (0:Int))/\(if v1>(0:Int) then v1 else (0:Int))<=(↑ss.length:Int)/\(↑ss.length:Int)<=(↑ss.length:Int))<|
 ao (zcc (now,cE (if v1>(0:Int) then v1 else (0:Int)).toNat (↑ss.length:Int).toNat ss,(↑(cE (if v1>(0:Int) then v1 else (0:Int)).toNat (↑ss.length:Int).toNat ss).length:Int),(0:Int),[],c,())) fun y6=>
 cC y6 (fun t7=>
 some (t7.1,())) (fun r8=>
 some r8)
abbrev Uf:Type:=(List aL)×Int×Int×Int×Int×Int×Int×Int×Int×Unit
abbrev zcd:Type:=Unit⊕(Bool×Unit)
def JM(t6:List aL)(t7 t8 Og Oh Oi Oj Ol Om:Int):Option (Uf⊕zcd):=
 ay (decide (t8<t7)) (
 aj ((0:Int)<=t8/\t8<(↑t6.length:Int))<|
 ab ((Option.rec ko (fun val=>val) t6[t8.toNat]?)) fun (v0:Int×cH×Int)=>
 ao (yO v0.2.1) fun y1=>
 ay y1.1 (
 ab (IntKind.i64.wrap (t8+(1:Int))) fun v2=>
 some (.inl (t6,t7,v2,Og,Oh,Oi,Oj,Ol,Om,()))) (
 ao (yO ((Og,Oh,Oi,Oj,Ol,Om))) fun y3=>
 ay y3.1 (
 ab (IntKind.i64.wrap (t8+(1:Int))) fun v4=>
 some (.inl (t6,t7,v4,v0.2.1.1,v0.2.1.2.1,v0.2.1.2.2.1,v0.2.1.2.2.2.1,v0.2.1.2.2.2.2.1,v0.2.1.2.2.2.2.2,()))) (
 ab (!(Og==v0.2.1.1&&(Oh==v0.2.1.2.1&&(Oi==v0.2.1.2.2.1&&(Oj==v0.2.1.2.2.2.1&&(Ol==v0.2.1.2.2.2.2.1&&Om==v0.2.1.2.2.2.2.2)))))) fun v5=>
 ay v5 (
 some (.inr (.inr (true,())))) (
 ab (IntKind.i64.wrap (t8+(1:Int))) fun v6=>
 some (.inl (t6,t7,v6,Og,Oh,Oi,Oj,Ol,Om,())))))) (
 some (.inr (.inl ())))
def On(s:Uf):Option zcd:=ct (fun s:Uf=>JM s.1 s.2.1 s.2.2.1 s.2.2.2.1 s.2.2.2.2.1 s.2.2.2.2.2.1 (q4 s).2.2.1 (q4 s).2.2.2.1 (q8 s).1) s
def Fe(ss:List aL):Option (Bool×Unit):=
 ao (On (ss,(↑ss.length:Int),(0:Int),(0:Int),(0:Int),(0:Int),(0:Int),(0:Int),(0:Int),())) fun y7=>
 cC y7 (fun t8=>
 some (false,())) (fun r9=>
 some r9)
abbrev Ug:Type:=(List aL)×Int×Int×Int×(List UInt8)×Int×Int×Int×Int×Int×Int×Unit
abbrev zce:Type:=Unit⊕(Bool×Unit)
def JN(t7:List aL)(t8 t9 h_0:Int)(h_1:List UInt8)(h_2 h_3 Uh Ui Uj Uk:Int):Option (Ug⊕zce):=
 ay (decide (t9<t8)) (
 aj ((0:Int)<=t9/\t9<(↑t7.length:Int))<|
 ab ((Option.rec ko (fun val=>val) t7[t9.toNat]?)) fun (v0:Int×cH×Int)=>
 ao (yO v0.2.1) fun y1=>
 ck (!y1.1)<|
 ck (!y1.1)<|
 bU (!y1.1) (yO ((h_2,h_3,Uh,Ui,Uj,Uk))) (false,()) fun y2=>
 ck (!y1.1)<|
 ck (!y1.1)<|
 ab (!y1.1&&!y2.1) fun v3=>
 ck v3<|
 ck v3<|
 ck v3<|
 ck v3<|
 ab (!(v0.2.1.1==h_2&&(v0.2.1.2.1==h_3&&(v0.2.1.2.2.1==Uh&&(v0.2.1.2.2.2.1==Ui&&(v0.2.1.2.2.2.2.1==Uj&&v0.2.1.2.2.2.2.2==Uk)))))) fun v4=>
 ck v3<|
 ab (v3&&v4) fun v5=>
 ay v5 (
 some (.inr (.inr (true,())))) (
 ab (IntKind.i64.wrap (t9+(1:Int))) fun v6=>
 some (.inl (t7,t8,v6,h_0,h_1,h_2,h_3,Uh,Ui,Uj,Uk,())))) (
 some (.inr (.inl ())))
def Oo(s:Ug):Option zce:=ct (fun s:Ug=>JN s.1 s.2.1 s.2.2.1 s.2.2.2.1 s.2.2.2.2.1 s.2.2.2.2.2.1 (q4 s).2.2.1 (q4 s).2.2.2.1 (q8 s).1 (q8 s).2.1 (q8 s).2.2.1) s
def Ff(h:Int×(List UInt8)×Int×Int×Int×Int×Int×Int)(ss:List aL):Option (Bool×Unit):=
 ao (Oo (ss,(↑ss.length:Int),(0:Int),h.1,h.2.1,h.2.2.1,h.2.2.2.1,h.2.2.2.2.1,h.2.2.2.2.2.1,(q4 h).2.2.1,(q4 h).2.2.2,())) fun y7=>
 cC y7 (fun t8=>
 some (false,())) (fun r9=>
 some r9)
def JO(c:Int×Int×Int×Int×Int×Int×Int×Int×Int)(h:Int×(List UInt8)×Int×Int×Int×Int×Int×Int)(ss:List aL)(now:Int):Option (Int×Unit):=
 ao (Fc c ss now) fun y0=>
 ao (Fe y0.1) fun y1=>
 ay y1.1 (
 some ((5:Int),())) (
 ab false fun v2=>
 ck v2<|
 ck v2<|
 ck v2<|
 ab (v2&&decide ((↑y0.1.length:Int)>(0:Int))) fun v3=>
 ay v3 (
 some ((4:Int),())) (
 ab (!false) fun v4=>
 ck v4<|
 ck v4<|
 ck v4<|
 ck v4<|
 bU v4 (Ff h y0.1) (false,()) fun y5=>
 ck v4<|
 ab (v4&&y5.1) fun v6=>
 ay v6 (
 some ((4:Int),())) (
 ab false fun v7=>
 ay v7 (
 some ((0:Int),())) (
 ay (decide ((↑y0.1.length:Int)>=c.2.2.1)) (
 some ((2:Int),())) (
 aj (decide ((↑ss.length:Int)>(0:Int))=true->decide ((↑ss.length:Int)>(0:Int))=true)<|
 aj (decide ((↑ss.length:Int)>(0:Int))=true->decide ((↑ss.length:Int)>(0:Int))=true)<|
 ab (IntKind.i64.wrap ((↑ss.length:Int)-(1:Int))) fun v8=>
 aj (decide ((↑ss.length:Int)>(0:Int))=true->decide ((↑ss.length:Int)>(0:Int))=true)<|
 aj (decide ((↑ss.length:Int)>(0:Int))=true->decide ((↑ss.length:Int)>(0:Int))=true)<|
 aj (decide ((↑ss.length:Int)>(0:Int))=true->(0:Int)<=v8/\v8<(↑ss.length:Int))<|
 ab ((Option.rec ko (fun val=>val) ss[v8.toNat]?)) fun (v9:Int×cH×Int)=>
 aj (decide ((↑ss.length:Int)>(0:Int))=true->decide ((↑ss.length:Int)>(0:Int))=true)<|
 aj (decide ((↑ss.length:Int)>(0:Int))=true->decide ((↑ss.length:Int)>(0:Int))=true)<|
 aj (decide ((↑ss.length:Int)>(0:Int))=true->decide ((↑ss.length:Int)>(0:Int))=true)<|
 aj (decide ((↑ss.length:Int)>(0:Int))=true->decide ((↑ss.length:Int)>(0:Int))=true)<|
 aj (decide ((↑ss.length:Int)>(0:Int))=true->decide ((↑ss.length:Int)>(0:Int))=true)<|
 aj (decide ((↑ss.length:Int)>(0:Int))=true->decide ((↑ss.length:Int)>(0:Int))=true)<|
 bU (decide ((↑ss.length:Int)>(0:Int))) (vE now v9.2.2 c.2.1) (false,()) fun fL=>
 aj (decide ((↑ss.length:Int)>(0:Int))=true->decide ((↑ss.length:Int)>(0:Int))=true)<|
 aj (decide ((↑ss.length:Int)>(0:Int))=true->decide ((↑ss.length:Int)>(0:Int))=true)<|
 ab (decide ((↑ss.length:Int)>(0:Int))&&!fL.1) fun v11=>
 ay v11 (
 some ((3:Int),())) (
 some ((1:Int),())))))))
def JP(c:Int×Int×Int×Int×Int×Int×Int×Int×Int)(ss:List aL)(now:Int):Option (Int×Unit):=
 ao (Fc c ss now) fun y0=>
 ao (Fe y0.1) fun y1=>
 ay y1.1 (
 some ((5:Int),())) (
 ab true fun v2=>
 ck v2<|
 ck v2<|
 ck v2<|
 ab (v2&&decide ((↑y0.1.length:Int)>(0:Int))) fun v3=>
 ay v3 (
 some ((4:Int),())) (
 ab (!true) fun v4=>
 aj (v4=true->False)<|
 aj (v4=true->False)<|
 ck v4<|
 ck v4<|
 bU v4 (Ff fC y0.1) (false,()) fun y5=>
 ck v4<|
 ab (v4&&y5.1) fun v6=>
 ay v6 (
 some ((4:Int),())) (
 ab true fun v7=>
 ay v7 (
 some ((0:Int),())) (
 ay (decide ((↑y0.1.length:Int)>=c.2.2.1)) (
 some ((2:Int),())) (
 aj (decide ((↑ss.length:Int)>(0:Int))=true->decide ((↑ss.length:Int)>(0:Int))=true)<|
 aj (decide ((↑ss.length:Int)>(0:Int))=true->decide ((↑ss.length:Int)>(0:Int))=true)<|
 ab (IntKind.i64.wrap ((↑ss.length:Int)-(1:Int))) fun v8=>
 aj (decide ((↑ss.length:Int)>(0:Int))=true->decide ((↑ss.length:Int)>(0:Int))=true)<|
 aj (decide ((↑ss.length:Int)>(0:Int))=true->decide ((↑ss.length:Int)>(0:Int))=true)<|
 aj (decide ((↑ss.length:Int)>(0:Int))=true->(0:Int)<=v8/\v8<(↑ss.length:Int))<|
 ab ((Option.rec ko (fun val=>val) ss[v8.toNat]?)) fun (v9:Int×cH×Int)=>
 aj (decide ((↑ss.length:Int)>(0:Int))=true->decide ((↑ss.length:Int)>(0:Int))=true)<|
 aj (decide ((↑ss.length:Int)>(0:Int))=true->decide ((↑ss.length:Int)>(0:Int))=true)<|
 aj (decide ((↑ss.length:Int)>(0:Int))=true->decide ((↑ss.length:Int)>(0:Int))=true)<|
 aj (decide ((↑ss.length:Int)>(0:Int))=true->decide ((↑ss.length:Int)>(0:Int))=true)<|
 aj (decide ((↑ss.length:Int)>(0:Int))=true->decide ((↑ss.length:Int)>(0:Int))=true)<|
 aj (decide ((↑ss.length:Int)>(0:Int))=true->decide ((↑ss.length:Int)>(0:Int))=true)<|
 bU (decide ((↑ss.length:Int)>(0:Int))) (vE now v9.2.2 c.2.1) (false,()) fun fL=>
 aj (decide ((↑ss.length:Int)>(0:Int))=true->decide ((↑ss.length:Int)>(0:Int))=true)<|
 aj (decide ((↑ss.length:Int)>(0:Int))=true->decide ((↑ss.length:Int)>(0:Int))=true)<|
 ab (decide ((↑ss.length:Int)>(0:Int))&&!fL.1) fun v11=>
 ay v11 (
 some ((3:Int),())) (
 some ((1:Int),())))))))
def rv(c:Int×Int×Int×Int×Int×Int×Int×Int×Int)(s':Int×Int×(List aX)×(List aH)×(List (Int×List aL))×(List aM)×List (Int×Int×Int×Int))(a':Int):Option (Int×Unit):=
 ao (E9 s'.2.2.1 a') fun y0=>
 ay y0.2.1 (
 ao (Fa s'.2.2.2.2.1 a') fun y1=>
 ao (JO c y0.1 y1.1 s'.1) fun y2=>
 some (y2.1,())) (
 ao (Fa s'.2.2.2.2.1 a') fun y3=>
 ao (JP c y3.1 s'.1) fun y4=>
 some (y4.1,()))
def cases_next(cs:List (Int×Int×Int×Int))(a' ov e8 now:Int):Option (Int×(List (Int×Int×Int×Int))×Unit):=
 ao (yU cs a') fun y0=>
 ay (decide (y0.1<(0:Int))) (
 some ((7:Int),[],())) (
 aj ((0:Int)<=y0.1/\y0.1<(↑cs.length:Int))<|
 ab ((Option.rec ((0:Int),(0:Int),(0:Int),(0:Int)) (fun val=>val) cs[y0.1.toNat]?)) fun (v1:Int×Int×Int×Int)=>
 ab (v1.2.2.2 != ov) fun v2=>
 ay v2 (
 some ((8:Int),[],())) (
 ao (yZ cs) fun y3=>
 aj ((0:Int)<=y0.1/\y0.1<(↑y3.1.length:Int))<|
 aj (y0.1.toNat<y3.1.length)<|
 aj ((0:Int)<=y0.1/\y0.1<(↑(y3.1.set y0.1.toNat ((y3.1.getD y0.1.toNat ((0:Int),(0:Int),(0:Int),(0:Int))).1,(y3.1.getD y0.1.toNat ((0:Int),(0:Int),(0:Int),(0:Int))).2.1,(y3.1.getD y0.1.toNat ((0:Int),(0:Int),(0:Int),(0:Int))).2.2.1,e8)).length:Int))<|
 aj (y0.1.toNat<(y3.1.set y0.1.toNat ((y3.1.getD y0.1.toNat ((0:Int),(0:Int),(0:Int),(0:Int))).1,(y3.1.getD y0.1.toNat ((0:Int),(0:Int),(0:Int),(0:Int))).2.1,(y3.1.getD y0.1.toNat ((0:Int),(0:Int),(0:Int),(0:Int))).2.2.1,e8)).length)<|
 ao (xd ((((y3.1.set y0.1.toNat ((y3.1.getD y0.1.toNat ((0:Int),(0:Int),(0:Int),(0:Int))).1,(y3.1.getD y0.1.toNat ((0:Int),(0:Int),(0:Int),(0:Int))).2.1,(y3.1.getD y0.1.toNat ((0:Int),(0:Int),(0:Int),(0:Int))).2.2.1,e8)).getD y0.1.toNat ((0:Int),(0:Int),(0:Int),(0:Int))).1,((y3.1.set y0.1.toNat ((y3.1.getD y0.1.toNat ((0:Int),(0:Int),(0:Int),(0:Int))).1,(y3.1.getD y0.1.toNat ((0:Int),(0:Int),(0:Int),(0:Int))).2.1,(y3.1.getD y0.1.toNat ((0:Int),(0:Int),(0:Int),(0:Int))).2.2.1,e8)).getD y0.1.toNat ((0:Int),(0:Int),(0:Int),(0:Int))).2.1,((y3.1.set y0.1.toNat ((y3.1.getD y0.1.toNat ((0:Int),(0:Int),(0:Int),(0:Int))).1,(y3.1.getD y0.1.toNat ((0:Int),(0:Int),(0:Int),(0:Int))).2.1,(y3.1.getD y0.1.toNat ((0:Int),(0:Int),(0:Int),(0:Int))).2.2.1,e8)).getD y0.1.toNat ((0:Int),(0:Int),(0:Int),(0:Int))).2.2.1,((y3.1.set y0.1.toNat ((y3.1.getD y0.1.toNat ((0:Int),(0:Int),(0:Int),(0:Int))).1,(y3.1.getD y0.1.toNat ((0:Int),(0:Int),(0:Int),(0:Int))).2.1,(y3.1.getD y0.1.toNat ((0:Int),(0:Int),(0:Int),(0:Int))).2.2.1,e8)).getD y0.1.toNat ((0:Int),(0:Int),(0:Int),(0:Int))).2.2.2))) fun y4=>
 ay (!y4.1) (
 ao (kW now) fun y5=>
 aj ((0:Int)<=y0.1/\y0.1<(↑(y3.1.set y0.1.toNat ((y3.1.getD y0.1.toNat ((0:Int),(0:Int),(0:Int),(0:Int))).1,(y3.1.getD y0.1.toNat ((0:Int),(0:Int),(0:Int),(0:Int))).2.1,(y3.1.getD y0.1.toNat ((0:Int),(0:Int),(0:Int),(0:Int))).2.2.1,e8)).length:Int))<|
 aj (y0.1.toNat<(y3.1.set y0.1.toNat ((y3.1.getD y0.1.toNat ((0:Int),(0:Int),(0:Int),(0:Int))).1,(y3.1.getD y0.1.toNat ((0:Int),(0:Int),(0:Int),(0:Int))).2.1,(y3.1.getD y0.1.toNat ((0:Int),(0:Int),(0:Int),(0:Int))).2.2.1,e8)).length)<|
 some ((0:Int),(y3.1.set y0.1.toNat ((y3.1.getD y0.1.toNat ((0:Int),(0:Int),(0:Int),(0:Int))).1,(y3.1.getD y0.1.toNat ((0:Int),(0:Int),(0:Int),(0:Int))).2.1,(y3.1.getD y0.1.toNat ((0:Int),(0:Int),(0:Int),(0:Int))).2.2.1,e8)).set y0.1.toNat (((y3.1.set y0.1.toNat ((y3.1.getD y0.1.toNat ((0:Int),(0:Int),(0:Int),(0:Int))).1,(y3.1.getD y0.1.toNat ((0:Int),(0:Int),(0:Int),(0:Int))).2.1,(y3.1.getD y0.1.toNat ((0:Int),(0:Int),(0:Int),(0:Int))).2.2.1,e8)).getD y0.1.toNat ((0:Int),(0:Int),(0:Int),(0:Int))).1,((y3.1.set y0.1.toNat ((y3.1.getD y0.1.toNat ((0:Int),(0:Int),(0:Int),(0:Int))).1,(y3.1.getD y0.1.toNat ((0:Int),(0:Int),(0:Int),(0:Int))).2.1,(y3.1.getD y0.1.toNat ((0:Int),(0:Int),(0:Int),(0:Int))).2.2.1,e8)).getD y0.1.toNat ((0:Int),(0:Int),(0:Int),(0:Int))).2.1,y5.1,((y3.1.set y0.1.toNat ((y3.1.getD y0.1.toNat ((0:Int),(0:Int),(0:Int),(0:Int))).1,(y3.1.getD y0.1.toNat ((0:Int),(0:Int),(0:Int),(0:Int))).2.1,(y3.1.getD y0.1.toNat ((0:Int),(0:Int),(0:Int),(0:Int))).2.2.1,e8)).getD y0.1.toNat ((0:Int),(0:Int),(0:Int),(0:Int))).2.2.2),())) (
 some ((0:Int),y3.1.set y0.1.toNat ((y3.1.getD y0.1.toNat ((0:Int),(0:Int),(0:Int),(0:Int))).1,(y3.1.getD y0.1.toNat ((0:Int),(0:Int),(0:Int),(0:Int))).2.1,(y3.1.getD y0.1.toNat ((0:Int),(0:Int),(0:Int),(0:Int))).2.2.1,e8),()))))
def xe(cs:List (Int×Int×Int×Int))(a' now:Int):Option (Int×(List (Int×Int×Int×Int))×Unit):=
 ao (yU cs a') fun y0=>
 ay (decide (y0.1<(0:Int))) (
 some ((7:Int),[],())) (
 aj ((0:Int)<=y0.1/\y0.1<(↑cs.length:Int))<|
 ab ((Option.rec ((0:Int),(0:Int),(0:Int),(0:Int)) (fun val=>val) cs[y0.1.toNat]?)) fun (v1:Int×Int×Int×Int)=>
 ao (cases_next cs a' v1.2.2.2 ((4:Int)) now) fun y2=>
 some (y2.1,y2.2.1,()))
def JQ(cs:List (Int×Int×Int×Int))(a' now:Int):Option (Int×(List (Int×Int×Int×Int))×Unit):=
 ao (cases_next cs a' ((1:Int)) ((5:Int)) now) fun y0=>
 some (y0.1,y0.2.1,())
def Fg(hs:List aX)(a':Int):Option (Int×(List aX)×Unit):=
 ao (BI hs a') fun y0=>
 ay (!y0.2.1) (
 some ((7:Int),[],())) (
 aj ((0:Int)<=(0:Int)/\(0:Int)<=y0.1/\y0.1<=(↑hs.length:Int))<|
 aj (room (32:Nat) (cE (0:Nat) y0.1.toNat hs).length)<|
 ab (IntKind.i64.wrap (y0.1+(1:Int))) fun v1=>
 aj ((0:Int)<=v1/\v1<=(↑hs.length:Int)/\(↑hs.length:Int)<=(↑hs.length:Int))<|
 aj (room (32:Nat) ((cE (0:Nat) y0.1.toNat hs).length+(cE v1.toNat (↑hs.length:Int).toNat hs).length))<|
 some ((0:Int),cE (0:Nat) y0.1.toNat hs++cE v1.toNat (↑hs.length:Int).toNat hs,()))
abbrev Ul:Type:=(List (Int×Int×Int×Int))×Int×Int×bD×(Int×Int×(List aX)×(List aH)×(List (Int×List aL))×(List aM)×List (Int×Int×Int×Int))×(Int×Int×(List aX)×(List aH)×(List (Int×List aL))×(List aM)×List (Int×Int×Int×Int))×Unit
abbrev zcf:Type:=((Int×Int×(List aX)×(List aH)×(List (Int×List aL))×(List aM)×List (Int×Int×Int×Int))×(Int×Int×(List aX)×(List aH)×(List (Int×List aL))×(List aM)×List (Int×Int×Int×Int))×Unit)⊕((Int×Int×(List aX)×(List aH)×(List (Int×List aL))×(List aM)×List (Int×Int×Int×Int))×Unit)
def BL(t8:List (Int×Int×Int×Int))(t9 t10:Int)(c:Int×Int×Int×Int×Int×Int×Int×Int×Int)(s' x:Int×Int×(List aX)×(List aH)×(List (Int×List aL))×(List aM)×List (Int×Int×Int×Int)):Option (Ul⊕zcf):=
 ay (decide (t10<t9)) (
 aj ((0:Int)<=t10/\t10<(↑t8.length:Int))<|
 ab ((Option.rec ((0:Int),(0:Int),(0:Int),(0:Int)) (fun val=>val) t8[t10.toNat]?)) fun (v0:Int×Int×Int×Int)=>
 ab (v0.2.2.2 != (1:Int)) fun v1=>
 ay v1 (
 ab (IntKind.i64.wrap (t10+(1:Int))) fun v2=>
 some (.inl (t8,t9,v2,c,s',x,()))) (
 ao (rv c s' v0.1) fun y3=>
 ab (y3.1 != (3:Int)) fun v4=>
 ay v4 (
 ao (xe (q4 s').2.2 v0.1 s'.1) fun y5=>
 ab (IntKind.i64.wrap (t10+(1:Int))) fun v6=>
 some (.inl (t8,t9,v6,c,(s'.1,s'.2.1,s'.2.2.1,s'.2.2.2.1,s'.2.2.2.2.1,s'.2.2.2.2.2.1,y5.2.1),x,()))) (
 ao (JQ (q4 s').2.2 v0.1 s'.1) fun y7=>
 ao (Fg s'.2.2.1 v0.1) fun y8=>
 ab (IntKind.i64.wrap (t10+(1:Int))) fun v9=>
 some (.inl (t8,t9,v9,c,(s'.1,s'.2.1,y8.2.1,s'.2.2.2.1,s'.2.2.2.2.1,s'.2.2.2.2.2.1,y7.2.1),x,()))))) (
 some (.inr (.inl (s',x,()))))
def zcg(s:Ul):Option zcf:=ct (fun s:Ul=>BL s.1 s.2.1 s.2.2.1 s.2.2.2.1 s.2.2.2.2.1 s.2.2.2.2.2.1) s
def JR(c:Int×Int×Int×Int×Int×Int×Int×Int×Int)(s':Int×Int×(List aX)×(List aH)×(List (Int×List aL))×(List aM)×List (Int×Int×Int×Int)):Option ((Int×Int×(List aX)×(List aH)×(List (Int×List aL))×(List aM)×List (Int×Int×Int×Int))×Unit):=
 ao (zcg ((q4 s').2.2,(↑s'.2.2.2.2.2.2.length:Int),(0:Int),c,s',((0:Int),(0:Int),[],[],[],[],[]),())) fun fL=>
 cC fL (fun t11=>
 some (t11.1,())) (fun Um=>
 some Um)
def Oq(c:Int×Int×Int×Int)(t1 t2:Int)(t3:Int×Int×Int×Int×Int×Int×Int×Int×Int):Option (Bool×Unit):=
 ab (c.1==t1) fun v0=>
 ck v0<|
 ck v0<|
 ab (c.2.2.2==(2:Int)) fun v1=>
 ck v0<|
 ab (v0&&v1) fun v2=>
 ck v2<|
 ck v2<|
 ck v2<|
 ck v2<|
 ck v2<|
 bU v2 (vE t2 c.2.2.1 (q8 t3)) (false,()) fun y3=>
 ck v2<|
 ab (v2&&y3.1) fun v4=>
 some (v4,())
abbrev Un:Type:=(List (Int×Int×Int×Int))×Int×Int×bD×Int×Int×Unit
abbrev zch:Type:=Unit⊕(Int×Unit)
def BM(s':List (Int×Int×Int×Int))(ec mU:Int)(Fh:Int×Int×Int×Int×Int×Int×Int×Int×Int)(t7 t8:Int):Option (Un⊕zch):=
 ay (decide (t8<t7)) (
 aj ((0:Int)<=t8/\t8<(↑s'.length:Int))<|
 ab ((Option.rec ((0:Int),(0:Int),(0:Int),(0:Int)) (fun val=>val) s'[t8.toNat]?)) fun (v0:Int×Int×Int×Int)=>
 ao (Oq v0 ec mU Fh) fun y1=>
 ay y1.1 (
 some (.inr (.inr (t8,())))) (
 ab (IntKind.i64.wrap (t8+(1:Int))) fun v2=>
 some (.inl (s',ec,mU,Fh,t7,v2,())))) (
 some (.inr (.inl ())))
def zci(s:Un):Option zch:=ct (fun s:Un=>BM s.1 s.2.1 s.2.2.1 s.2.2.2.1 s.2.2.2.2.1 s.2.2.2.2.2.1) s
def Ot(s':List (Int×Int×Int×Int))(ec mU:Int)(Fh:Int×Int×Int×Int×Int×Int×Int×Int×Int):Option (Int×Unit):=
 ao (zci (s',ec,mU,Fh,(↑s'.length:Int),(0:Int),())) fun y3=>
 cC y3 (fun t4=>
 some ((-1:Int),())) (fun r5=>
 some r5)
def Ou(s':List (Int×Int×Int×Int))(ec mU:Int)(Fh:Int×Int×Int×Int×Int×Int×Int×Int×Int):Option (Bool×Unit):=
 ao (Ot s' ec mU Fh) fun y0=>
 some (decide (y0.1>=(0:Int)),())
def JS(f:Int×Int×Int×Int×Int×Int×Int×Int×Int)(cs:List (Int×Int×Int×Int))(a' now:Int):Option (Bool×Unit):=
 ao (Ou cs a' now f) fun y0=>
 some (y0.1,())
abbrev Uo:Type:=(List (Int×Int×Int×Int))×Int×Int×(List (Int×Int×Int×Int))×Int×Int×bD×Unit
abbrev zcj:Type:=(Int×Unit)⊕(Int×Unit)
def JT(cs:List (Int×Int×Int×Int))(now at':Int)(t10:List (Int×Int×Int×Int))(t11 t12:Int)(f:Int×Int×Int×Int×Int×Int×Int×Int×Int):Option (Uo⊕zcj):=
 ay (decide (t12<t11)) (
 aj ((0:Int)<=t12/\t12<(↑t10.length:Int))<|
 ab ((Option.rec ((0:Int),(0:Int),(0:Int),(0:Int)) (fun val=>val) t10[t12.toNat]?)) fun (v0:Int×Int×Int×Int)=>
 ao (xd v0) fun y1=>
 ck (!y1.1)<|
 ck (!y1.1)<|
 ab (v0.2.2.2==(2:Int)) fun v2=>
 ck (!y1.1)<|
 ck (!y1.1&&v2)<|
 ck (!y1.1&&v2)<|
 ck (!y1.1&&v2)<|
 ck (!y1.1&&v2)<|
 ck (!y1.1&&v2)<|
 bU (!y1.1&&v2) (vE now v0.2.2.1 (q8 f)) (false,()) fun y3=>
 ck (!y1.1)<|
 aj ((!y1.1)=true->v2=true->(!y1.1&&v2)=true)<|
 ab (v2&&y3.1) fun v4=>
 cn y1.1<|
 ab (y1.1||v4) fun v5=>
 ay v5 (
 ab (IntKind.i64.wrap (t12+(1:Int))) fun v6=>
 some (.inl (cs,now,at',t10,t11,v6,f,()))) (
 ck (!decide (at'<(0:Int)))<|
 ck (!decide (at'<(0:Int)))<|
 ck (!decide (at'<(0:Int)))<|
 aj ((!decide (at'<(0:Int)))=true->(0:Int)<=at'/\at'<(↑cs.length:Int))<|
 ab ((Option.rec ((0:Int),(0:Int),(0:Int),(0:Int)) (fun val=>val) cs[at'.toNat]?)) fun (v7:Int×Int×Int×Int)=>
 ck (!decide (at'<(0:Int)))<|
 ck (!decide (at'<(0:Int)))<|
 ck (!decide (at'<(0:Int)))<|
 ck (!decide (at'<(0:Int)))<|
 aj (decide (at'<(0:Int))=false->(!decide (at'<(0:Int)))=true)<|
 ab (decide (at'<(0:Int))||decide (v0.2.2.1<v7.2.2.1)) fun v8=>
 ay v8 (
 ab (IntKind.i64.wrap (t12+(1:Int))) fun v9=>
 some (.inl (cs,now,t12,t10,t11,v9,f,()))) (
 ab (IntKind.i64.wrap (t12+(1:Int))) fun v10=>
 some (.inl (cs,now,at',t10,t11,v10,f,()))))) (
 some (.inr (.inl (at',()))))
def Up(s:Uo):Option zcj:=ct (fun s:Uo=>JT s.1 s.2.1 s.2.2.1 s.2.2.2.1 s.2.2.2.2.1 s.2.2.2.2.2.1 (q4 s).2.2.1) s
def JU(f:Int×Int×Int×Int×Int×Int×Int×Int×Int)(cs:List (Int×Int×Int×Int))(now:Int):Option (Int×Unit):=
 ao (Up (cs,now,(-1:Int),cs,(↑cs.length:Int),(0:Int),f,())) fun bY=>
 cC bY (fun t12=>
 some (t12.1,())) (fun BE=>
 some BE)
def Ov(i j:Int)(xs:List (Int×Int×Int×Int)):Option (List (Int×Int×Int×Int)×Unit):=
 EG xs i j
def JV(f:Int×Int×Int×Int×Int×Int×Int×Int×Int)(cs:List (Int×Int×Int×Int))(a' now:Int):Option (Int×(List (Int×Int×Int×Int))×Unit):=
 ao (yU cs a') fun y0=>
 ay (decide (y0.1>=(0:Int))) (
 some ((6:Int),[],())) (
 ao (JS f cs a' now) fun y1=>
 ay y1.1 (
 some ((8:Int),[],())) (
 ao (yZ cs) fun y2=>
 ay (decide ((↑y2.1.length:Int)>=(16:Int))) (
 ao (JU f y2.1 now) fun y3=>
 ay (decide (y3.1<(0:Int))) (
 some ((4:Int),[],())) (
 ab (IntKind.i64.wrap (y3.1+(1:Int))) fun v4=>
 ao (Ov y3.1 v4 y2.1) fun y5=>
 ao (kW now) fun y6=>
 aj (room (32:Nat) (y5.1.length+[(a',y6.1,(0:Int),(0:Int))].length))<|
 some ((0:Int),y5.1++[(a',y6.1,(0:Int),(0:Int))],()))) (
 ao (kW now) fun y7=>
 aj (room (32:Nat) (y2.1.length+[(a',y7.1,(0:Int),(0:Int))].length))<|
 some ((0:Int),y2.1++[(a',y7.1,(0:Int),(0:Int))],()))))
abbrev Uq:Type:=(List aX)×Int×Int×bD×(Int×Int×(List aX)×(List aH)×(List (Int×List aL))×(List aM)×List (Int×Int×Int×Int))×(Int×Int×(List aX)×(List aH)×(List (Int×List aL))×(List aM)×List (Int×Int×Int×Int))×Unit
abbrev zck:Type:=((Int×Int×(List aX)×(List aH)×(List (Int×List aL))×(List aM)×List (Int×Int×Int×Int))×(Int×Int×(List aX)×(List aH)×(List (Int×List aL))×(List aM)×List (Int×Int×Int×Int))×Unit)⊕((Int×Int×(List aX)×(List aH)×(List (Int×List aL))×(List aM)×List (Int×Int×Int×Int))×Unit)
def BN(t10:List aX)(t11 t12:Int)(c:Int×Int×Int×Int×Int×Int×Int×Int×Int)(s' x:Int×Int×(List aX)×(List aH)×(List (Int×List aL))×(List aM)×List (Int×Int×Int×Int)):Option (Uq⊕zck):=
 ay (decide (t12<t11)) (
 aj ((0:Int)<=t12/\t12<(↑t10.length:Int))<|
 ab ((Option.rec fC (fun val=>val) t10[t12.toNat]?)) fun (v0:Int×(List UInt8)×Int×Int×Int×Int×Int×Int)=>
 ao (rv c s' v0.1) fun y1=>
 ab (y1.1 != (3:Int)) fun v2=>
 ay v2 (
 ab (IntKind.i64.wrap (t12+(1:Int))) fun v3=>
 some (.inl (t10,t11,v3,c,s',x,()))) (
 ao (JV c (q4 s').2.2 v0.1 s'.1) fun y4=>
 ab (y4.1==(0:Int)) fun v5=>
 ay v5 (
 ab (IntKind.i64.wrap (t12+(1:Int))) fun v6=>
 some (.inl (t10,t11,v6,c,(s'.1,s'.2.1,s'.2.2.1,s'.2.2.2.1,s'.2.2.2.2.1,s'.2.2.2.2.2.1,y4.2.1),x,()))) (
 ab (IntKind.i64.wrap (t12+(1:Int))) fun v7=>
 some (.inl (t10,t11,v7,c,s',x,()))))) (
 some (.inr (.inl (s',x,()))))
def zcl(s:Uq):Option zck:=ct (fun s:Uq=>BN s.1 s.2.1 s.2.2.1 s.2.2.2.1 s.2.2.2.2.1 s.2.2.2.2.2.1) s
def JW(c:Int×Int×Int×Int×Int×Int×Int×Int×Int)(s':Int×Int×(List aX)×(List aH)×(List (Int×List aL))×(List aM)×List (Int×Int×Int×Int)):Option ((Int×Int×(List aX)×(List aH)×(List (Int×List aL))×(List aM)×List (Int×Int×Int×Int))×Unit):=
 ao (zcl (s'.2.2.1,(↑s'.2.2.1.length:Int),(0:Int),c,s',((0:Int),(0:Int),[],[],[],[],[]),())) fun y8=>
 cC y8 (fun t9=>
 some (t9.1,())) (fun JX=>
 some JX)
def Fi(ks:List (Int×List aL))(a':Int):Option (Int×Bool×Unit):=
 ao (BK ks a') fun y0=>
 ck (!!y0.2.1)<|
 ck (!!y0.2.1)<|
 aj ((!!y0.2.1)=true->(0:Int)<=y0.1/\y0.1<(↑ks.length:Int))<|
 ab ((Option.rec ((0:Int),[]) (fun val=>val) ks[y0.1.toNat]?)) fun (v1:Int×List aL)=>
 ck (!!y0.2.1)<|
 ck (!!y0.2.1)<|
 ck (!!y0.2.1)<|
 ck (!!y0.2.1)<|
 ab ((↑v1.2.length:Int)==(0:Int)) fun v2=>
 cn (!y0.2.1)<|
 ab (!y0.2.1||v2) fun v3=>
 ay v3 (
 some ((0:Int),false,())) (
 aj ((0:Int)<=y0.1/\y0.1<(↑ks.length:Int))<|
 ab ((Option.rec ((0:Int),[]) (fun val=>val) ks[y0.1.toNat]?)) fun (v4:Int×List aL)=>
 aj ((0:Int)<=y0.1/\y0.1<(↑ks.length:Int))<|
 ab ((Option.rec ((0:Int),[]) (fun val=>val) ks[y0.1.toNat]?)) fun (v5:Int×List aL)=>
 ab (IntKind.i64.wrap ((↑v5.2.length:Int)-(1:Int))) fun v6=>
 aj ((0:Int)<=v6/\v6<(↑v4.2.length:Int))<|
 ab ((Option.rec ko (fun val=>val) v4.2[v6.toNat]?)) fun (v7:Int×cH×Int)=>
 some (v7.2.2,true,()))
def JY(a' mT ml:Int)(oz:List aX)(pq:List aH)(oA:List (Int×List aL))(pw:List aM)(px:List (Int×Int×Int×Int))(zp9 zcm zqa zqb zqc zqd zqe py pz:Int):Option (Bool×Int×Int×(List aX)×(List aH)×(List (Int×List aL))×(List aM)×(List (Int×Int×Int×Int))×Int×Int×Int×Int×Int×Int×Int×Int×Int×Unit):=
 ao (E9 oz a') fun y0=>
 ao (Fi oA a') fun y1=>
 ck (!y0.2.1)<|
 ck (!y0.2.1&&y1.2.1)<|
 ck (!y0.2.1&&y1.2.1)<|
 ck (!y0.2.1&&y1.2.1)<|
 ck (!y0.2.1&&y1.2.1)<|
 ck (!y0.2.1&&y1.2.1)<|
 bU (!y0.2.1&&y1.2.1) (vE mT y1.1 zcm) (false,()) fun y2=>
 ck (!y0.2.1)<|
 aj ((!y0.2.1)=true->y1.2.1=true->(!y0.2.1&&y1.2.1)=true)<|
 ab (y1.2.1&&y2.1) fun v3=>
 cn y0.2.1<|
 ab (y0.2.1||v3) fun v4=>
 some (v4,mT,ml,oz,pq,oA,pw,px,zp9,zcm,zqa,zqb,zqc,zqd,zqe,py,pz,())
abbrev Ur:Type:=(List (Int×List aL))×Int×Int×(List (Int×List aL))×Int×Int×(List aX)×(List aH)×(List (Int×List aL))×(List aM)×(List (Int×Int×Int×Int))×Int×Int×Int×Int×Int×Int×Int×Int×Int×Unit
abbrev zcn:Type:=(Int×Int×(List aX)×(List aH)×(List (Int×List aL))×(List aM)×(List (Int×Int×Int×Int))×Int×Int×Int×Int×Int×Int×Int×Int×Int×(List (Int×List aL))×Unit)⊕((Int×Int×(List aX)×(List aH)×(List (Int×List aL))×(List aM)×List (Int×Int×Int×Int))×bD×(List (Int×List aL))×Unit)
def Fj(t8:List (Int×List aL))(t9 t10:Int)(out:List (Int×List aL))(IK yQ:Int)(xf:List aX)(xg:List aH)(Fk:List (Int×List aL))(xh:List aM)(zco:List (Int×Int×Int×Int))(vD mS dz dA dW dB zcp zcq zcr:Int):Option (Ur⊕zcn):=
 ay (decide (t10<t9)) (
 aj ((0:Int)<=t10/\t10<(↑t8.length:Int))<|
 ab ((Option.rec ((0:Int),[]) (fun val=>val) t8[t10.toNat]?)) fun (v0:Int×List aL)=>
 ao (JY v0.1 IK yQ xf xg Fk xh zco vD mS dz dA dW dB zcp zcq zcr) fun y1=>
 ay y1.1 (
 aj (room (32:Nat) (out.length+[v0].length))<|
 ab (IntKind.i64.wrap (t10+(1:Int))) fun v2=>
 some (.inl (t8,t9,v2,out++[v0],y1.2.1,y1.2.2.1,y1.2.2.2.1,y1.2.2.2.2.1,y1.2.2.2.2.2.1,(q4 y1).2.2.1,(q4 y1).2.2.2.1,(q8 y1).1,(q8 y1).2.1,(q8 y1).2.2.1,(q8 y1).2.2.2.1,(ax y1).1,(ax y1).2.1,(ax y1).2.2.1,(ax y1).2.2.2.1,(aA y1).1,()))) (
 ab (IntKind.i64.wrap (t10+(1:Int))) fun v3=>
 some (.inl (t8,t9,v3,out,y1.2.1,y1.2.2.1,y1.2.2.2.1,y1.2.2.2.2.1,y1.2.2.2.2.2.1,(q4 y1).2.2.1,(q4 y1).2.2.2.1,(q8 y1).1,(q8 y1).2.1,(q8 y1).2.2.1,(q8 y1).2.2.2.1,(ax y1).1,(ax y1).2.1,(ax y1).2.2.1,(ax y1).2.2.2.1,(aA y1).1,())))) (
 some (.inr (.inl (IK,yQ,xf,xg,Fk,xh,zco,vD,mS,dz,dA,dW,dB,zcp,zcq,zcr,out,()))))
def zcs(s:Ur):Option zcn:=ct (fun s:Ur=>Fj s.1 s.2.1 s.2.2.1 s.2.2.2.1 s.2.2.2.2.1 s.2.2.2.2.2.1 (q4 s).2.2.1 (q4 s).2.2.2.1 (q8 s).1 (q8 s).2.1 (q8 s).2.2.1 (q8 s).2.2.2.1 (ax s).1 (ax s).2.1 (ax s).2.2.1 (ax s).2.2.2.1 (aA s).1 (aA s).2.1 (aA s).2.2.1 (aA s).2.2.2.1) s
def Ow(ks:List (Int×List aL))(o0:Int×Int×(List aX)×(List aH)×(List (Int×List aL))×(List aM)×List (Int×Int×Int×Int))(o1:Int×Int×Int×Int×Int×Int×Int×Int×Int):Option ((Int×Int×(List aX)×(List aH)×(List (Int×List aL))×(List aM)×List (Int×Int×Int×Int))×bD×(List (Int×List aL))×Unit):=
 ao (zcs (ks,(↑ks.length:Int),(0:Int),[],o0.1,o0.2.1,o0.2.2.1,o0.2.2.2.1,o0.2.2.2.2.1,o0.2.2.2.2.2.1,(q4 o0).2.2,o1.1,o1.2.1,o1.2.2.1,o1.2.2.2.1,o1.2.2.2.2.1,o1.2.2.2.2.2.1,(q4 o1).2.2.1,(q4 o1).2.2.2.1,(q8 o1),())) fun y4=>
 cC y4 (fun t5=>
 some ((t5.1,t5.2.1,t5.2.2.1,t5.2.2.2.1,t5.2.2.2.2.1,t5.2.2.2.2.2.1,(q4 t5).2.2.1),((q4 t5).2.2.2.1,(q8 t5).1,(q8 t5).2.1,(q8 t5).2.2.1,(q8 t5).2.2.2.1,(ax t5).1,(ax t5).2.1,(ax t5).2.2.1,(ax t5).2.2.2.1),(aA t5).1,())) (fun r6=>
 some r6)
def JZ(c:Int×Int×Int×Int×Int×Int×Int×Int×Int)(s':Int×Int×(List aX)×(List aH)×(List (Int×List aL))×(List aM)×List (Int×Int×Int×Int)):Option ((Int×Int×(List aX)×(List aH)×(List (Int×List aL))×(List aM)×List (Int×Int×Int×Int))×Unit):=
 ao (Ow (s'.2.2.2.2.1) (s') (c)) fun y0=>
 some ((y0.1.1,y0.1.2.1,y0.1.2.2.1,y0.1.2.2.2.1,y0.2.2.1,y0.1.2.2.2.2.2),())
abbrev Us:Type:=Int×Int×(List aM)×Int×Int×(List aM)×(List aM)×bD×Unit
abbrev zct:Type:=((List aM)×(List aM)×Unit)⊕((List aM)×(List aM)×Unit)
def BP(now room:Int)(t14:List aM)(t15 t16:Int)(out again:List aM)(c:Int×Int×Int×Int×Int×Int×Int×Int×Int):Option (Us⊕zct):=
 ay (decide (t16<t15)) (
 aj ((0:Int)<=t16/\t16<(↑t14.length:Int))<|
 ab ((Option.rec ((0:Int),(0:Int),(0:Int),(0:Int),(0:Int)) (fun val=>val) t14[t16.toNat]?)) fun (v0:Int×Int×Int×Int×Int)=>
 ao (za now v0.2.2.2.1) fun y1=>
 ay (decide (y1.1<c.2.2.2.2.2.1)) (
 aj (Tr.room (40:Nat) (out.length+[v0].length))<|
 ab (IntKind.i64.wrap (t16+(1:Int))) fun v2=>
 some (.inl (now,room,t14,t15,v2,out++[v0],again,c,()))) (
 ay (decide (v0.2.2.2.2>=(q4 c).2.2.1)) (
 ab (IntKind.i64.wrap (t16+(1:Int))) fun v3=>
 some (.inl (now,room,t14,t15,v3,out,again,c,()))) (
 ay (decide ((↑again.length:Int)<room)) (
 ab (IntKind.i64.wrap (v0.2.2.2.2+(1:Int))) fun v4=>
 ao (kW now) fun y5=>
 aj (Tr.room (40:Nat) (again.length+[(v0.1,v0.2.1,v0.2.2.1,y5.1,v4)].length))<|
 aj (Tr.room (40:Nat) (out.length+[(v0.1,v0.2.1,v0.2.2.1,y5.1,v4)].length))<|
 ab (IntKind.i64.wrap (t16+(1:Int))) fun v6=>
 some (.inl (now,room,t14,t15,v6,out++[(v0.1,v0.2.1,v0.2.2.1,y5.1,v4)],again++[(v0.1,v0.2.1,v0.2.2.1,y5.1,v4)],c,()))) (
 aj (Tr.room (40:Nat) (out.length+[v0].length))<|
 ab (IntKind.i64.wrap (t16+(1:Int))) fun v7=>
 some (.inl (now,room,t14,t15,v7,out++[v0],again,c,())))))) (
 some (.inr (.inl (out,again,()))))
def zcu(s:Us):Option zct:=ct (fun s:Us=>BP s.1 s.2.1 s.2.2.1 s.2.2.2.1 s.2.2.2.2.1 s.2.2.2.2.2.1 (q4 s).2.2.1 (q4 s).2.2.2.1) s
def J0(c:Int×Int×Int×Int×Int×Int×Int×Int×Int)(ps:List aM)(now room:Int):Option ((List aM)×(List aM)×Unit):=
 ao (zcu (now,room,ps,(↑ps.length:Int),(0:Int),[],[],c,())) fun y8=>
 cC y8 (fun t9=>
 some (t9.2.1,t9.1,())) (fun JX=>
 some JX)
def Fl(p:Int×Int×Int×Int×Int):Option ((Bool×Int×Int×cH×Int×Int)×Unit):=
 some ((false,(0:Int),p.1,cJ,p.2.1,p.2.2.1),())
abbrev Ut:Type:=Int×Nat×Int×Int×bD×(List aH)×(List Int)×(List Int)×Unit
abbrev zcv:Type:=(Int×Nat×Int×Int×bD×(List aH)×(List Int)×(List Int)×Unit)⊕((List Int)×(List aH)×Unit)
def J1(room:Int)(s':Nat)(t22 t23:Int)(c:Int×Int×Int×Int×Int×Int×Int×Int×Int)(out:List aH)(asks x:List Int):Option (Ut⊕zcv):=
 aj (decide ((↑asks.length:Int)<room)=true->decide ((↑asks.length:Int)<room)=true)<|
 aj (decide ((↑asks.length:Int)<room)=true->decide ((↑asks.length:Int)<room)=true)<|
 aj (decide ((↑asks.length:Int)<room)=true->decide ((↑asks.length:Int)<room)=true)<|
 aj (decide ((↑asks.length:Int)<room)=true->s'<out.length)<|
 aj (decide ((↑asks.length:Int)<room)=true->decide ((↑asks.length:Int)<room)=true)<|
 aj (decide ((↑asks.length:Int)<room)=true->decide ((↑asks.length:Int)<room)=true)<|
 aj (decide ((↑asks.length:Int)<room)=true->decide ((↑asks.length:Int)<room)=true)<|
 aj (decide ((↑asks.length:Int)<room)=true->s'<out.length)<|
 aj (decide ((↑asks.length:Int)<room)=true->decide ((↑asks.length:Int)<room)=true)<|
 bU (decide ((↑asks.length:Int)<room)) (vz (((out.getD s' c8).1.1,(out.getD s' c8).1.2))) ((0:Int),()) fun y2=>
 aj (decide ((↑asks.length:Int)<room)=true->decide ((↑asks.length:Int)<room)=true)<|
 aj (decide ((↑asks.length:Int)<room)=true->decide ((↑asks.length:Int)<room)=true)<|
 aj (decide ((↑asks.length:Int)<room)=true->decide ((↑asks.length:Int)<room)=true)<|
 ab (decide ((↑asks.length:Int)<room)&&decide ((out.getD s' c8).2.2<y2.1)) fun v3=>
 ay v3 (
 aj (s'<out.length)<|
 aj (s'<out.length)<|
 ao (II (((out.getD s' c8).1.1,(out.getD s' c8).1.2)) ((out.getD s' c8).2.2)) fun y4=>
 aj (Tr.room (4:Nat) (asks.length+[y4.1].length))<|
 aj (s'<out.length)<|
 ab (IntKind.i64.wrap ((out.getD s' c8).2.2+(1:Int))) fun v5=>
 aj (s'<out.length)<|
 some (.inl (room,s',t22,t23,c,out.set s' (((out.getD s' c8).1.1,(out.getD s' c8).1.2),(out.getD s' c8).2.1,v5),asks++[y4.1],x,()))) (
 some (.inr (.inl (room,s',t22,t23,c,out,asks,x,()))))
def Ox(s:Ut):Option zcv:=ct (fun s:Ut=>J1 s.1 s.2.1 s.2.2.1 s.2.2.2.1 s.2.2.2.2.1 s.2.2.2.2.2.1 (q4 s).2.2.1 (q4 s).2.2.2.1) s
abbrev Uu:Type:=Int×Int×Int×(List Int)×bD×(List aH)×(List Int)×Unit
abbrev zcw:Type:=((List aH)×(List Int)×Unit)⊕((List Int)×(List aH)×Unit)
def Oy(room t22 t23:Int)(asks:List Int)(c:Int×Int×Int×Int×Int×Int×Int×Int×Int)(out:List aH)(x:List Int):Option (Uu⊕zcw):=
 ay (decide (t23<t22)) (
 aj ((0:Int)<=t23/\t23<(↑x.length:Int))<|
 aj (t23.toNat<x.length)<|
 aj ((0:Int)<=x.getD t23.toNat (0:Int)/\x.getD t23.toNat (0:Int)<(↑out.length:Int))<|
 ao (Ox (room,(x.getD t23.toNat (0:Int)).toNat,t22,t23,c,out,asks,x,())) fun y6=>
 cC y6 (fun t7=>
 aj (t7.2.1<t7.2.2.2.2.2.1.length)<|
 aj (t7.2.1<t7.2.2.2.2.2.1.length)<|
 ao (vz (((t7.2.2.2.2.2.1.getD t7.2.1 c8).1.1,(t7.2.2.2.2.2.1.getD t7.2.1 c8).1.2))) fun y9=>
 ay (decide ((t7.2.2.2.2.2.1.getD t7.2.1 c8).2.2>=y9.1)) (
 aj (t7.2.1<t7.2.2.2.2.2.1.length)<|
 ao (E8 ((t7.2.2.2.2.2.1.getD t7.2.1 c8).2.1) t7.2.2.2.2.1.2.2.2.1) fun fL=>
 aj (t7.2.1<t7.2.2.2.2.2.1.length)<|
 aj (t7.2.1<(t7.2.2.2.2.2.1.set t7.2.1 (((t7.2.2.2.2.2.1.getD t7.2.1 c8).1.1,(t7.2.2.2.2.2.1.getD t7.2.1 c8).1.2),(t7.2.2.2.2.2.1.getD t7.2.1 c8).2.1,(0:Int))).length)<|
 ab (IntKind.i64.wrap (t7.2.2.2.1+(1:Int))) fun v11=>
 some (.inl (t7.1,t7.2.2.1,v11,(q4 t7).2.2.1,t7.2.2.2.2.1,(t7.2.2.2.2.2.1.set t7.2.1 (((t7.2.2.2.2.2.1.getD t7.2.1 c8).1.1,(t7.2.2.2.2.2.1.getD t7.2.1 c8).1.2),(t7.2.2.2.2.2.1.getD t7.2.1 c8).2.1,(0:Int))).set t7.2.1 ((((t7.2.2.2.2.2.1.set t7.2.1 (((t7.2.2.2.2.2.1.getD t7.2.1 c8).1.1,(t7.2.2.2.2.2.1.getD t7.2.1 c8).1.2),(t7.2.2.2.2.2.1.getD t7.2.1 c8).2.1,(0:Int))).getD t7.2.1 c8).1.1,((t7.2.2.2.2.2.1.set t7.2.1 (((t7.2.2.2.2.2.1.getD t7.2.1 c8).1.1,(t7.2.2.2.2.2.1.getD t7.2.1 c8).1.2),(t7.2.2.2.2.2.1.getD t7.2.1 c8).2.1,(0:Int))).getD t7.2.1 c8).1.2),fL.1,((t7.2.2.2.2.2.1.set t7.2.1 (((t7.2.2.2.2.2.1.getD t7.2.1 c8).1.1,(t7.2.2.2.2.2.1.getD t7.2.1 c8).1.2),(t7.2.2.2.2.2.1.getD t7.2.1 c8).2.1,(0:Int))).getD t7.2.1 c8).2.2),(q4 t7).2.2.2.1,()))) (
 ab (IntKind.i64.wrap (t7.2.2.2.1+(1:Int))) fun v12=>
 some (.inl (t7.1,t7.2.2.1,v12,(q4 t7).2.2.1,t7.2.2.2.2.1,t7.2.2.2.2.2.1,(q4 t7).2.2.2.1,())))) (fun r8=>
 some (.inr (.inr r8)))) (
 some (.inr (.inl (out,asks,()))))
def Oz(s:Uu):Option zcw:=ct (fun s:Uu=>Oy s.1 s.2.1 s.2.2.1 s.2.2.2.1 s.2.2.2.2.1 s.2.2.2.2.2.1 (q4 s).2.2.1) s
def zb(c:Int×Int×Int×Int×Int×Int×Int×Int×Int)(ss:List aH)(now room:Int):Option ((List Int)×(List aH)×Unit):=
 ao (yV ss) fun y0=>
 ao (JH y0.1 now) fun y1=>
 ao (Oz (room,(↑y1.1.length:Int),(0:Int),[],c,y0.1,y1.1,())) fun dR=>
 cC dR (fun t14=>
 some (t14.2.1,t14.1,())) (fun sM=>
 some sM)
def J2(a' seq now:Int):Option (aM×Unit):=
 ab (IntKind.u32.wrap (lr IntKind.u32 a' (65535:Int))) fun v0=>
 ab (IntKind.i64.wrap v0) fun v1=>
 ab (IntKind.i64.wrap (lr IntKind.i64 seq (65535:Int))) fun v2=>
 ao (kW now) fun y3=>
 some ((a',v1,v2,y3.1,(0:Int)),())
def OA(x t1:Int×Int×Int×Int×Int):Option (Bool×Unit):=
 ab (x.1==t1.1) fun v0=>
 some (v0,())
abbrev Uv:Type:=(List aM)×aM×Int×Int×Unit
abbrev zcx:Type:=Unit⊕(Int×Unit)
def BQ(s':List aM)(ec:Int×Int×Int×Int×Int)(t7 t8:Int):Option (Uv⊕zcx):=
 ay (decide (t8<t7)) (
 aj ((0:Int)<=t8/\t8<(↑s'.length:Int))<|
 ab ((Option.rec ((0:Int),(0:Int),(0:Int),(0:Int),(0:Int)) (fun val=>val) s'[t8.toNat]?)) fun (v0:Int×Int×Int×Int×Int)=>
 ao (OA v0 ec) fun y1=>
 ay y1.1 (
 some (.inr (.inr (t8,())))) (
 ab (IntKind.i64.wrap (t8+(1:Int))) fun v2=>
 some (.inl (s',ec,t7,v2,())))) (
 some (.inr (.inl ())))
def zcy(s:Uv):Option zcx:=ct (fun s:Uv=>BQ s.1 s.2.1 s.2.2.1 s.2.2.2.1) s
def OB(s':List aM)(ec:Int×Int×Int×Int×Int):Option (Int×Unit):=
 ao (zcy (s',ec,(↑s'.length:Int),(0:Int),())) fun y3=>
 cC y3 (fun t4=>
 some ((-1:Int),())) (fun r5=>
 some r5)
def J3(s':List aM)(ec:Int×Int×Int×Int×Int):Option (Bool×Unit):=
 ao (OB s' ec) fun y0=>
 some (decide (y0.1>=(0:Int)),())
def Fm(xs:List aM):Option (List aM×Unit):=
 clone 40 xs
def J4(ps:List aM)(p:Int×Int×Int×Int×Int):Option (Int×(List aM)×Unit):=
 ao (J3 ps p) fun y0=>
 ay y0.1 (
 some ((6:Int),[],())) (
 ay (decide ((↑ps.length:Int)>=(16:Int))) (
 some ((4:Int),[],())) (
 ao (Fm ps) fun y1=>
 aj (room (40:Nat) (y1.1.length+[p].length))<|
 some ((0:Int),y1.1++[p],())))
abbrev Uw:Type:=(List aM)×(List aM)×Int×Int×(List (Bool×Int×Int×cH×Int×Int))×bD×(Int×Int×(List aX)×(List aH)×(List (Int×List aL))×(List aM)×List (Int×Int×Int×Int))×(Int×Int×(List aX)×(List aH)×(List (Int×List aL))×(List aM)×List (Int×Int×Int×Int))×(List aM)×Unit
abbrev zcz:Type:=((List aM)×bD×(Int×Int×(List aX)×(List aH)×(List (Int×List aL))×(List aM)×List (Int×Int×Int×Int))×(Int×Int×(List aX)×(List aH)×(List (Int×List aL))×(List aM)×List (Int×Int×Int×Int))×(List (Bool×Int×Int×cH×Int×Int))×(List aM)×Unit)⊕((Int×Int×(List aX)×(List aH)×(List (Int×List aL))×(List aM)×List (Int×Int×Int×Int))×(List (Bool×Int×Int×cH×Int×Int))×Unit)
def Fo(again t30:List aM)(t31 t32:Int)(out:List (Bool×Int×Int×cH×Int×Int))(c:Int×Int×Int×Int×Int×Int×Int×Int×Int)(s' x:Int×Int×(List aX)×(List aH)×(List (Int×List aL))×(List aM)×List (Int×Int×Int×Int))(ps:List aM):Option (Uw⊕zcz):=
 ay (decide (t32<t31)) (
 aj ((0:Int)<=t32/\t32<(↑t30.length:Int))<|
 ab ((Option.rec ((0:Int),(0:Int),(0:Int),(0:Int),(0:Int)) (fun val=>val) t30[t32.toNat]?)) fun (v1:Int×Int×Int×Int×Int)=>
 ao (Fl v1) fun y2=>
 aj (room (40:Nat) (out.length+[y2.1].length))<|
 ab (IntKind.i64.wrap (t32+(1:Int))) fun v3=>
 some (.inl (again,t30,t31,v3,out++[y2.1],c,s',x,ps,()))) (
 some (.inr (.inl (again,c,s',x,out,ps,()))))
def Ux(s:Uw):Option zcz:=ct (fun s:Uw=>Fo s.1 s.2.1 s.2.2.1 s.2.2.2.1 s.2.2.2.2.1 s.2.2.2.2.2.1 (q4 s).2.2.1 (q4 s).2.2.2.1 (q8 s).1) s
abbrev Uy:Type:=(List Int)×Int×Int×(Int×Int×(List aX)×(List aH)×(List (Int×List aL))×(List aM)×List (Int×Int×Int×Int))×(Int×Int×(List aX)×(List aH)×(List (Int×List aL))×(List aM)×List (Int×Int×Int×Int))×(List (Bool×Int×Int×cH×Int×Int))×Unit
abbrev zcA:Type:=((Int×Int×(List aX)×(List aH)×(List (Int×List aL))×(List aM)×List (Int×Int×Int×Int))×(Int×Int×(List aX)×(List aH)×(List (Int×List aL))×(List aM)×List (Int×Int×Int×Int))×(List (Bool×Int×Int×cH×Int×Int))×Unit)⊕((Int×Int×(List aX)×(List aH)×(List (Int×List aL))×(List aM)×List (Int×Int×Int×Int))×(List (Bool×Int×Int×cH×Int×Int))×Unit)
def Fp(t66:List Int)(t67 t68:Int)(s' x:Int×Int×(List aX)×(List aH)×(List (Int×List aL))×(List aM)×List (Int×Int×Int×Int))(out:List (Bool×Int×Int×cH×Int×Int)):Option (Uy⊕zcA):=
 ay (decide (t68<t67)) (
 aj ((0:Int)<=t68/\t68<(↑t66.length:Int))<|
 ab (t66.getD t68.toNat (0:Int)) fun v10=>
 ab (IntKind.i64.wrap (s'.2.1+(1:Int))) fun v11=>
 ab (IntKind.i64.wrap (lr IntKind.i64 v11 (65535:Int))) fun v12=>
 ao (J2 v10 v12 s'.1) fun dR=>
 ao (J4 s'.2.2.2.2.2.1 dR.1) fun av=>
 ab (av.1==(0:Int)) fun ic=>
 ay ic (
 ao (Fl dR.1) fun ku=>
 aj (room (40:Nat) (out.length+[ku.1].length))<|
 ab (IntKind.i64.wrap (t68+(1:Int))) fun v17=>
 some (.inl (t66,t67,v17,(s'.1,v12,s'.2.2.1,s'.2.2.2.1,s'.2.2.2.2.1,av.2.1,(q4 s').2.2),x,out++[ku.1],()))) (
 ab (IntKind.i64.wrap (t68+(1:Int))) fun mn=>
 some (.inl (t66,t67,mn,(s'.1,v12,s'.2.2),x,out,())))) (
 some (.inr (.inl (s',x,out,()))))
def OC(s:Uy):Option zcA:=ct (fun s:Uy=>Fp s.1 s.2.1 s.2.2.1 s.2.2.2.1 s.2.2.2.2.1 s.2.2.2.2.2.1) s
def J5(c:Int×Int×Int×Int×Int×Int×Int×Int×Int)(s':Int×Int×(List aX)×(List aH)×(List (Int×List aL))×(List aM)×List (Int×Int×Int×Int)):Option ((Int×Int×(List aX)×(List aH)×(List (Int×List aL))×(List aM)×List (Int×Int×Int×Int))×(List (Bool×Int×Int×cH×Int×Int))×Unit):=
 ao (J0 c s'.2.2.2.2.2.1 s'.1 c.2.2.2.2.1) fun y0=>
 ao (Ux (y0.1,y0.1,(↑y0.1.length:Int),(0:Int),[],c,s',((0:Int),(0:Int),[],[],[],[],[]),y0.2.1,())) fun y4=>
 cC y4 (fun t5=>
 ab (IntKind.i64.wrap (t5.2.1.2.2.2.2.1-(↑t5.1.length:Int))) fun v7=>
 ab (IntKind.i64.wrap ((16:Int)-(↑t5.2.2.2.2.2.1.length:Int))) fun v8=>
 ao (zb t5.2.1 t5.2.2.1.2.2.2.1 t5.2.2.1.1 (if (if v8<v7 then v8 else v7)>(0:Int) then if v8<v7 then v8 else v7 else (0:Int))) fun y9=>
 ao (OC (y9.1,(↑y9.1.length:Int),(0:Int),(t5.2.2.1.1,t5.2.2.1.2.1,t5.2.2.1.2.2.1,y9.2.1,t5.2.2.1.2.2.2.2.1,t5.2.2.2.2.2.1,(q4 t5.2.2.1).2.2),t5.2.2.2.1,t5.2.2.2.2.1,())) fun cZ=>
 cC cZ (fun t20=>
 some (t20.1,t20.2.2.1,())) (fun Ji=>
 some Ji)) (fun r6=>
 some r6)
def J6(c:Int×Int×Int×Int×Int×Int×Int×Int×Int)(s':Int×Int×(List aX)×(List aH)×(List (Int×List aL))×(List aM)×List (Int×Int×Int×Int)):Option ((Int×Int×(List aX)×(List aH)×(List (Int×List aL))×(List aM)×List (Int×Int×Int×Int))×(List (Bool×Int×Int×cH×Int×Int))×Unit):=
 ao (E8 (s'.1) ((1:Int))) fun y0=>
 ao (JJ (c) (s'.2.2.2.2.2.2) (y0.1)) fun y1=>
 ao (JR (c) ((y0.1,s'.2.1,s'.2.2.1,s'.2.2.2.1,s'.2.2.2.2.1,s'.2.2.2.2.2.1,y1.1))) fun y2=>
 ao (JW (c) (y2.1)) fun y3=>
 ao (JZ (c) (y3.1)) fun y4=>
 ao (J5 (c) (y4.1)) fun y5=>
 some (y5.1,y5.2.1,())
def J7(hs:List aX)(h:Int×(List UInt8)×Int×Int×Int×Int×Int×Int):Option (Int×(List aX)×Unit):=
 ao (BI hs h.1) fun y0=>
 ao (Bz h.2.1) fun y1=>
 ay (!y1.1) (
 some ((12:Int),[],())) (
 ay y0.2.1 (
 some ((6:Int),[],())) (
 ay (decide ((↑hs.length:Int)>=(48:Int))) (
 some ((4:Int),[],())) (
 aj ((0:Int)<=(0:Int)/\(0:Int)<=y0.1/\y0.1<=(↑hs.length:Int))<|
 aj (room (32:Nat) (cE (0:Nat) y0.1.toNat hs).length)<|
 aj (room (32:Nat) ((cE (0:Nat) y0.1.toNat hs).length+[h].length))<|
 aj ((0:Int)<=y0.1/\y0.1<=(↑hs.length:Int)/\(↑hs.length:Int)<=(↑hs.length:Int))<|
 aj (room (32:Nat) ((cE (0:Nat) y0.1.toNat hs++[h]).length+(cE y0.1.toNat (↑hs.length:Int).toNat hs).length))<|
 some ((0:Int),cE (0:Nat) y0.1.toNat hs++[h]++cE y0.1.toNat (↑hs.length:Int).toNat hs,()))))
def OE(l:List aX)(e:Int)(zc:Int)(zd:Int)(BR:List aX)(BS:List aH)(ze:List (Int×List aL))(zf:List aM)(BT:List (Int×Int×Int×Int)):Option (Int×Int×Int×(List aX)×(List aH)×(List (Int×List aL))×(List aM)×(List (Int×Int×Int×Int))×Unit):=
 ab (e==(0:Int)) fun v0=>
 ay (v0) (
 some (e,zc,zd,l,BS,ze,zf,BT,())) (
 some (e,zc,zd,BR,BS,ze,zf,BT,()))
def J8(s':Int×Int×(List aX)×(List aH)×(List (Int×List aL))×(List aM)×List (Int×Int×Int×Int))(a':Int):Option ((Int×Int×(List aX)×(List aH)×(List (Int×List aL))×(List aM)×List (Int×Int×Int×Int))×Int×Unit):=
 ao (Fg (s'.2.2.1) (a')) fun y0=>
 ab (y0.1 != (0:Int)) fun v1=>
 ay (v1) (
 some (s',y0.1,())) (
 ao (xe (s'.2.2.2.2.2.2) (a') (s'.1)) fun y2=>
 ab (y2.1==(0:Int)) fun v3=>
 ay (v3) (
 some ((s'.1,s'.2.1,y0.2.1,s'.2.2.2.1,s'.2.2.2.2.1,s'.2.2.2.2.2.1,y2.2.1),(0:Int),())) (
 some ((s'.1,s'.2.1,y0.2.1,s'.2.2.2),(0:Int),())))
def Fq(l:List aH)(e zc zd:Int)(BR:List aX)(BS:List aH)(ze:List (Int×List aL))(zf:List aM)(BT:List (Int×Int×Int×Int)):Option (Int×Int×Int×(List aX)×(List aH)×(List (Int×List aL))×(List aM)×(List (Int×Int×Int×Int))×Unit):=
 ab (e==(0:Int)) fun v0=>
 ay v0 (
 some (e,zc,zd,BR,l,ze,zf,BT,())) (
 some (e,zc,zd,BR,BS,ze,zf,BT,()))
def OF(p:Int×Int×Int×Int×Int)(t1:Int):Option (Bool×Unit):=
 ab (p.1==t1) fun v0=>
 some (v0,())
abbrev Uz:Type:=(List aM)×Int×Int×Int×Unit
abbrev zcB:Type:=Unit⊕(Int×Unit)
def BU(s':List aM)(ec t7 t8:Int):Option (Uz⊕zcB):=
 ay (decide (t8<t7)) (
 aj ((0:Int)<=t8/\t8<(↑s'.length:Int))<|
 ab ((Option.rec ((0:Int),(0:Int),(0:Int),(0:Int),(0:Int)) (fun val=>val) s'[t8.toNat]?)) fun (v0:Int×Int×Int×Int×Int)=>
 ao (OF v0 ec) fun y1=>
 ay y1.1 (
 some (.inr (.inr (t8,())))) (
 ab (IntKind.i64.wrap (t8+(1:Int))) fun v2=>
 some (.inl (s',ec,t7,v2,())))) (
 some (.inr (.inl ())))
def zcC(s:Uz):Option zcB:=ct (fun s:Uz=>BU s.1 s.2.1 s.2.2.1 s.2.2.2.1) s
def J9(s':List aM)(ec:Int):Option (Int×Unit):=
 ao (zcC (s',ec,(↑s'.length:Int),(0:Int),())) fun y3=>
 cC y3 (fun t4=>
 some ((-1:Int),())) (fun r5=>
 some r5)
def OG(i j:Int)(xs:List aM):Option (List aM×Unit):=
 EG xs i j
def Ka(s':Int×Int×(List aX)×(List aH)×(List (Int×List aL))×(List aM)×List (Int×Int×Int×Int))(a':Int):Option ((Int×Int×(List aX)×(List aH)×(List (Int×List aL))×(List aM)×List (Int×Int×Int×Int))×Int×Unit):=
 ao (J9 s'.2.2.2.2.2.1 a') fun y0=>
 ay (decide (y0.1<(0:Int))) (
 some (s',(7:Int),())) (
 ao (Fm s'.2.2.2.2.2.1) fun y1=>
 ab (IntKind.i64.wrap (y0.1+(1:Int))) fun v2=>
 ao (OG y0.1 v2 y1.1) fun y3=>
 some ((s'.1,s'.2.1,s'.2.2.1,s'.2.2.2.1,s'.2.2.2.2.1,y3.1,(q4 s').2.2),(0:Int),()))
def Kb(ss:List aL)(s':Int×cH×Int):Option ((List aL)×Unit):=
 aj (room (24:Nat) ss.length)<|
 aj (room (24:Nat) (ss.length+[s'].length))<|
 ab (IntKind.i64.wrap ((↑(ss++[s']).length:Int)-(8:Int))) fun v0=>
 aj (((0:Int)<=if v0>(0:Int) then v0 else (0:Int))/\(if v0>(0:Int) then v0 else (0:Int))<=(↑(ss++[s']).length:Int)/\(↑(ss++[s']).length:Int)<=(↑(ss++[s']).length:Int))<|
 aj ((if v0>(0:Int) then v0 else (0:Int)).toNat+((↑(ss++[s']).length:Int).toNat-(if v0>(0:Int) then v0 else (0:Int)).toNat)<=(ss++[s']).length)<|
 some (cE (if v0>(0:Int) then v0 else (0:Int)).toNat ((if v0>(0:Int) then v0 else (0:Int)).toNat+((↑(ss++[s']).length:Int).toNat-(if v0>(0:Int) then v0 else (0:Int)).toNat)) (ss++[s']),())
def BV(ks:List (Int×List aL))(a':Int)(s':Int×cH×Int):Option (Int×(List (Int×List aL))×Unit):=
 ao (BK ks a') fun y0=>
 ck (!decide (s'.1<(0:Int)))<|
 ck (!decide (s'.1<(0:Int)))<|
 aj (decide (s'.1<(0:Int))=false->(!decide (s'.1<(0:Int)))=true)<|
 ab (decide (s'.1<(0:Int))||decide (s'.1>=(4:Int))) fun v1=>
 ay v1 (
 some ((12:Int),[],())) (
 ao (Fi ks a') fun y2=>
 ay (decide (s'.2.2<if y2.1>(0:Int) then y2.1 else (0:Int))) (
 some ((3:Int),[],())) (
 ck (!y0.2.1)<|
 ck (!y0.2.1)<|
 ck (!y0.2.1)<|
 ab (!y0.2.1&&decide ((↑ks.length:Int)>=(96:Int))) fun v3=>
 ay v3 (
 some ((4:Int),[],())) (
 aj (room (32:Nat) ks.length)<|
 ay y0.2.1 (
 aj ((0:Int)<=y0.1/\y0.1<(↑ks.length:Int))<|
 aj (y0.1.toNat<ks.length)<|
 ao (Kb ((ks.getD y0.1.toNat ((0:Int),[])).2) s') fun y4=>
 aj ((0:Int)<=y0.1/\y0.1<(↑ks.length:Int))<|
 aj (y0.1.toNat<ks.length)<|
 some ((0:Int),ks.set y0.1.toNat ((ks.getD y0.1.toNat ((0:Int),[])).1,y4.1),())) (
 aj (room (32:Nat) (ks.length+(1:Nat)))<|
 ab (IntKind.i64.wrap (y0.1+(1:Int))) fun v5=>
 aj ((0:Int)<=v5/\v5<=(↑(ks++[((0:Int),[])]).length:Int)/\(↑(ks++[((0:Int),[])]).length:Int)<=(↑(ks++[((0:Int),[])]).length:Int))<|
 aj ((0:Int)<=y0.1/\y0.1<=(↑(ks++[((0:Int),[])]).length:Int)/\(↑(ks++[((0:Int),[])]).length:Int)<=(↑(ks++[((0:Int),[])]).length:Int))<|
 aj (y0.1.toNat+((↑(ks++[((0:Int),[])]).length:Int).toNat-y0.1.toNat)<=(ks++[((0:Int),[])]).length)<|
 aj (v5.toNat+((↑(ks++[((0:Int),[])]).length:Int).toNat-v5.toNat)<=(ks++[((0:Int),[])]).length)<|
 aj ((0:Int)<=y0.1/\y0.1<(↑(bH v5.toNat ((↑(ks++[((0:Int),[])]).length:Int).toNat-v5.toNat) (cE y0.1.toNat (y0.1.toNat+((↑(ks++[((0:Int),[])]).length:Int).toNat-y0.1.toNat)) (ks++[((0:Int),[])])) (ks++[((0:Int),[])])).length:Int))<|
 aj (y0.1.toNat<(bH v5.toNat ((↑(ks++[((0:Int),[])]).length:Int).toNat-v5.toNat) (cE y0.1.toNat (y0.1.toNat+((↑(ks++[((0:Int),[])]).length:Int).toNat-y0.1.toNat)) (ks++[((0:Int),[])])) (ks++[((0:Int),[])])).length)<|
 some ((0:Int),(bH v5.toNat ((↑(ks++[((0:Int),[])]).length:Int).toNat-v5.toNat) (cE y0.1.toNat (y0.1.toNat+((↑(ks++[((0:Int),[])]).length:Int).toNat-y0.1.toNat)) (ks++[((0:Int),[])])) (ks++[((0:Int),[])])).set y0.1.toNat (a',[s']),())))))
def Kc(s':Int×Int×(List aX)×(List aH)×(List (Int×List aL))×(List aM)×List (Int×Int×Int×Int))(e:Int×aX×(Int×Int)×Int×cH×Int):Option ((Int×Int×(List aX)×(List aH)×(List (Int×List aL))×(List aM)×List (Int×Int×Int×Int))×Int×Unit):=
 ab (e.2.2.2.1==(0:Int)) fun v0=>
 ay v0 (
 ao (Ka s' e.2.1.1) fun y1=>
 ab (y1.2.1 != (0:Int)) fun v2=>
 ay v2 (
 some (s',y1.2.1,())) (
 ao (BV y1.1.2.2.2.2.1 e.2.1.1 ((e.2.2.2.1,cJ,s'.1))) fun y3=>
 ab (y3.1 != (0:Int)) fun v4=>
 ay v4 (
 some (y1.1,y3.1,())) (
 ao (xe (q4 y1.1).2.2 e.2.1.1 y1.1.1) fun y5=>
 ab (y5.1==(0:Int)) fun v6=>
 ay v6 (
 some ((y1.1.1,y1.1.2.1,y1.1.2.2.1,y1.1.2.2.2.1,y3.2.1,y1.1.2.2.2.2.2.1,y5.2.1),(0:Int),())) (
 some ((y1.1.1,y1.1.2.1,y1.1.2.2.1,y1.1.2.2.2.1,y3.2.1,y1.1.2.2.2.2.2),(0:Int),()))))) (
 ao (BV s'.2.2.2.2.1 e.2.1.1 ((e.2.2.2.1,e.2.2.2.2.1,s'.1))) fun y7=>
 ab (y7.1 != (0:Int)) fun v8=>
 ay v8 (
 some (s',y7.1,())) (
 ao (xe (q4 s').2.2 e.2.1.1 s'.1) fun y9=>
 ab (y9.1==(0:Int)) fun v10=>
 ay v10 (
 some ((s'.1,s'.2.1,s'.2.2.1,s'.2.2.2.1,y7.2.1,s'.2.2.2.2.2.1,y9.2.1),(0:Int),())) (
 some ((s'.1,s'.2.1,s'.2.2.1,s'.2.2.2.1,y7.2.1,s'.2.2.2.2.2),(0:Int),()))))
def Kd(cs:List (Int×Int×Int×Int))(a' now:Int):Option (Int×(List (Int×Int×Int×Int))×Unit):=
 ao (cases_next cs a' ((0:Int)) ((1:Int)) now) fun y0=>
 some (y0.1,y0.2.1,())
def Fs(l:List (Int×Int×Int×Int))(e zc zd:Int)(BR:List aX)(BS:List aH)(ze:List (Int×List aL))(zf:List aM)(BT:List (Int×Int×Int×Int)):Option (Int×Int×Int×(List aX)×(List aH)×(List (Int×List aL))×(List aM)×(List (Int×Int×Int×Int))×Unit):=
 ab (e==(0:Int)) fun v0=>
 ay v0 (
 some (e,zc,zd,BR,BS,ze,zf,l,())) (
 some (e,zc,zd,BR,BS,ze,zf,BT,()))
def Ke(cs:List (Int×Int×Int×Int))(a' now:Int):Option (Int×(List (Int×Int×Int×Int))×Unit):=
 ao (cases_next cs a' ((0:Int)) ((2:Int)) now) fun y0=>
 some (y0.1,y0.2.1,())
def vF(c:Int×Int×Int×Int×Int×Int×Int×Int×Int)(s':Int×Int×(List aX)×(List aH)×(List (Int×List aL))×(List aM)×List (Int×Int×Int×Int))(e:Int×aX×(Int×Int)×Int×cH×Int):Option ((Int×Int×(List aX)×(List aH)×(List (Int×List aL))×(List aM)×List (Int×Int×Int×Int))×Int×(List (Bool×Int×Int×cH×Int×Int))×Unit):=
 ab (e.1==(0:Int)) fun v0=>
 ay v0 (
 ao (J6 c s') fun y1=>
 some (y1.1,(0:Int),y1.2.1,())) (
 ab (e.1==(1:Int)) fun v2=>
 ay v2 (
 ao (J7 s'.2.2.1 e.2.1) fun y3=>
 ao (OE y3.2.1 y3.1 s'.1 s'.2.1 s'.2.2.1 s'.2.2.2.1 s'.2.2.2.2.1 s'.2.2.2.2.2.1 (q4 s').2.2) fun y4=>
 ab (y4.1 != (0:Int)) fun v5=>
 ay v5 (
 some (s',y4.1,[],())) (
 some ((y4.2.1,y4.2.2.1,y4.2.2.2.1,y4.2.2.2.2.1,y4.2.2.2.2.2.1,(q4 y4).2.2.1,(q4 y4).2.2.2.1),(0:Int),[],()))) (
 ab (e.1==(2:Int)) fun v6=>
 ay v6 (
 ao (J8 s' e.2.1.1) fun y7=>
 ab (y7.2.1 != (0:Int)) fun v8=>
 ay v8 (
 some (s',y7.2.1,[],())) (
 some (y7.1,(0:Int),[],()))) (
 ab (e.1==(3:Int)) fun v9=>
 ay v9 (
 ao (yW s'.2.2.2.1 e.2.2.1 s'.1) fun fL=>
 ao (Fq fL.2.1 fL.1 s'.1 s'.2.1 s'.2.2.1 s'.2.2.2.1 s'.2.2.2.2.1 s'.2.2.2.2.2.1 (q4 s').2.2) fun bY=>
 ab (bY.1 != (0:Int)) fun v12=>
 ay v12 (
 some (s',bY.1,[],())) (
 some ((bY.2.1,bY.2.2.1,bY.2.2.2.1,bY.2.2.2.2.1,bY.2.2.2.2.2.1,(q4 bY).2.2.1,(q4 bY).2.2.2.1),(0:Int),[],()))) (
 ab (e.1==(4:Int)) fun jt=>
 ay jt (
 ao (yY s'.2.2.2.1 e.2.2.1) fun av=>
 ao (Fq av.2.1 av.1 s'.1 s'.2.1 s'.2.2.1 s'.2.2.2.1 s'.2.2.2.2.1 s'.2.2.2.2.2.1 (q4 s').2.2) fun gN=>
 ab (gN.1 != (0:Int)) fun gr=>
 ay gr (
 some (s',gN.1,[],())) (
 some ((gN.2.1,gN.2.2.1,gN.2.2.2.1,gN.2.2.2.2.1,gN.2.2.2.2.2.1,(q4 gN).2.2.1,(q4 gN).2.2.2.1),(0:Int),[],()))) (
 ab (e.1==(5:Int)) fun v17=>
 ay v17 (
 ao (Kc s' e) fun cA=>
 ab (cA.2.1 != (0:Int)) fun iW=>
 ay iW (
 some (s',cA.2.1,[],())) (
 some (cA.1,(0:Int),[],()))) (
 ab (e.1==(6:Int)) fun v20=>
 ay v20 (
 ao (Kd (q4 s').2.2 e.2.1.1 s'.1) fun y21=>
 ao (Fs y21.2.1 y21.1 s'.1 s'.2.1 s'.2.2.1 s'.2.2.2.1 s'.2.2.2.2.1 s'.2.2.2.2.2.1 (q4 s').2.2) fun y22=>
 ab (y22.1 != (0:Int)) fun v23=>
 ay v23 (
 some (s',y22.1,[],())) (
 some ((y22.2.1,y22.2.2.1,y22.2.2.2.1,y22.2.2.2.2.1,y22.2.2.2.2.2.1,(q4 y22).2.2.1,(q4 y22).2.2.2.1),(0:Int),[],()))) (
 ab (e.1==(7:Int)) fun v24=>
 ay v24 (
 ao (Ke (q4 s').2.2 e.2.1.1 s'.1) fun Ft=>
 ao (Fs Ft.2.1 Ft.1 s'.1 s'.2.1 s'.2.2.1 s'.2.2.2.1 s'.2.2.2.2.1 s'.2.2.2.2.2.1 (q4 s').2.2) fun qj=>
 ab (qj.1 != (0:Int)) fun uh=>
 ay uh (
 some (s',qj.1,[],())) (
 some ((qj.2.1,qj.2.2.1,qj.2.2.2.1,qj.2.2.2.2.1,qj.2.2.2.2.2.1,(q4 qj).2.2.1,(q4 qj).2.2.2.1),(0:Int),[],()))) (
 ab ((12:Int) != (0:Int)) fun v28=>
 ay v28 (
 some (s',(12:Int),[],())) (
 some (s',(0:Int),[],()))))))))))
abbrev UA:Type:=Bool×Int×Int×(Int×Int×(List aX)×(List aH)×(List (Int×List aL))×(List aM)×List (Int×Int×Int×Int))×(Int×Int×(List aX)×(List aH)×(List (Int×List aL))×(List aM)×List (Int×Int×Int×Int))×Unit
abbrev zcD:Type:=(Bool×(Int×Int×(List aX)×(List aH)×(List (Int×List aL))×(List aM)×List (Int×Int×Int×Int))×(Int×Int×(List aX)×(List aH)×(List (Int×List aL))×(List aM)×List (Int×Int×Int×Int))×Unit)⊕(Bool×Unit)
def Kf(ok:Bool)(t71 t72:Int)(a' b:Int×Int×(List aX)×(List aH)×(List (Int×List aL))×(List aM)×List (Int×Int×Int×Int)):Option (UA⊕zcD):=
 ay (decide (t72<t71)) (
 ck ok<|
 ck ok<|
 ck ok<|
 aj (ok=true->(0:Int)<=t72/\t72<(↑a'.2.2.1.length:Int))<|
 ab ((Option.rec fC (fun val=>val) a'.2.2.1[t72.toNat]?)) fun (jt:Int×(List UInt8)×Int×Int×Int×Int×Int×Int)=>
 ck ok<|
 ck ok<|
 ck ok<|
 ck ok<|
 aj (ok=true->(0:Int)<=t72/\t72<(↑b.2.2.1.length:Int))<|
 ab ((Option.rec fC (fun val=>val) b.2.2.1[t72.toNat]?)) fun (gM:Int×(List UInt8)×Int×Int×Int×Int×Int×Int)=>
 ck ok<|
 ck ok<|
 ck ok<|
 ab (jt==gM) fun ic=>
 ck ok<|
 ab (ok&&ic) fun gr=>
 ab (IntKind.i64.wrap (t72+(1:Int))) fun v17=>
 some (.inl (gr,t71,v17,a',b,()))) (
 some (.inr (.inl (ok,a',b,()))))
def UB(s:UA):Option zcD:=ct (fun s:UA=>Kf s.1 s.2.1 s.2.2.1 s.2.2.2.1 s.2.2.2.2.1) s
abbrev UC:Type:=Bool×Int×Int×(Int×Int×(List aX)×(List aH)×(List (Int×List aL))×(List aM)×List (Int×Int×Int×Int))×(Int×Int×(List aX)×(List aH)×(List (Int×List aL))×(List aM)×List (Int×Int×Int×Int))×Unit
abbrev zcE:Type:=(Bool×(Int×Int×(List aX)×(List aH)×(List (Int×List aL))×(List aM)×List (Int×Int×Int×Int))×(Int×Int×(List aX)×(List aH)×(List (Int×List aL))×(List aM)×List (Int×Int×Int×Int))×Unit)⊕(Bool×Unit)
def Kg(ok:Bool)(t92 t93:Int)(a' b:Int×Int×(List aX)×(List aH)×(List (Int×List aL))×(List aM)×List (Int×Int×Int×Int)):Option (UC⊕zcE):=
 ay (decide (t93<t92)) (
 ck ok<|
 ck ok<|
 ck ok<|
 aj (ok=true->(0:Int)<=t93/\t93<(↑a'.2.2.2.1.length:Int))<|
 ab ((Option.rec c8 (fun val=>val) a'.2.2.2.1[t93.toNat]?)) fun (v21:(Int×Int)×Int×Int)=>
 ck ok<|
 ck ok<|
 ck ok<|
 ck ok<|
 aj (ok=true->(0:Int)<=t93/\t93<(↑b.2.2.2.1.length:Int))<|
 ab ((Option.rec c8 (fun val=>val) b.2.2.2.1[t93.toNat]?)) fun (v22:(Int×Int)×Int×Int)=>
 ck ok<|
 ck ok<|
 ck ok<|
 ab (v21==v22) fun v23=>
 ck ok<|
 ab (ok&&v23) fun v24=>
 ab (IntKind.i64.wrap (t93+(1:Int))) fun v25=>
 some (.inl (v24,t92,v25,a',b,()))) (
 some (.inr (.inl (ok,a',b,()))))
def UD(s:UC):Option zcE:=ct (fun s:UC=>Kg s.1 s.2.1 s.2.2.1 s.2.2.2.1 s.2.2.2.2.1) s
abbrev UE:Type:=Bool×Int×Int×(Int×Int×(List aX)×(List aH)×(List (Int×List aL))×(List aM)×List (Int×Int×Int×Int))×(Int×Int×(List aX)×(List aH)×(List (Int×List aL))×(List aM)×List (Int×Int×Int×Int))×Unit
abbrev zcF:Type:=(Bool×(Int×Int×(List aX)×(List aH)×(List (Int×List aL))×(List aM)×List (Int×Int×Int×Int))×(Int×Int×(List aX)×(List aH)×(List (Int×List aL))×(List aM)×List (Int×Int×Int×Int))×Unit)⊕(Bool×Unit)
def Kh(ok:Bool)(t113 t114:Int)(a' b:Int×Int×(List aX)×(List aH)×(List (Int×List aL))×(List aM)×List (Int×Int×Int×Int)):Option (UE⊕zcF):=
 ay (decide (t114<t113)) (
 ck ok<|
 ck ok<|
 ck ok<|
 aj (ok=true->(0:Int)<=t114/\t114<(↑a'.2.2.2.2.2.1.length:Int))<|
 ab ((Option.rec ((0:Int),(0:Int),(0:Int),(0:Int),(0:Int)) (fun val=>val) a'.2.2.2.2.2.1[t114.toNat]?)) fun (kX:Int×Int×Int×Int×Int)=>
 ck ok<|
 ck ok<|
 ck ok<|
 ck ok<|
 aj (ok=true->(0:Int)<=t114/\t114<(↑b.2.2.2.2.2.1.length:Int))<|
 ab ((Option.rec ((0:Int),(0:Int),(0:Int),(0:Int),(0:Int)) (fun val=>val) b.2.2.2.2.2.1[t114.toNat]?)) fun (v30:Int×Int×Int×Int×Int)=>
 ck ok<|
 ck ok<|
 ck ok<|
 ab (kX==v30) fun v31=>
 ck ok<|
 ab (ok&&v31) fun v32=>
 ab (IntKind.i64.wrap (t114+(1:Int))) fun v33=>
 some (.inl (v32,t113,v33,a',b,()))) (
 some (.inr (.inl (ok,a',b,()))))
def UF(s:UE):Option zcF:=ct (fun s:UE=>Kh s.1 s.2.1 s.2.2.1 s.2.2.2.1 s.2.2.2.2.1) s
abbrev UG:Type:=Bool×Int×Int×(Int×Int×(List aX)×(List aH)×(List (Int×List aL))×(List aM)×List (Int×Int×Int×Int))×(Int×Int×(List aX)×(List aH)×(List (Int×List aL))×(List aM)×List (Int×Int×Int×Int))×Unit
abbrev zcG:Type:=(Bool×(Int×Int×(List aX)×(List aH)×(List (Int×List aL))×(List aM)×List (Int×Int×Int×Int))×(Int×Int×(List aX)×(List aH)×(List (Int×List aL))×(List aM)×List (Int×Int×Int×Int))×Unit)⊕(Bool×Unit)
def Ki(ok:Bool)(t134 t135:Int)(a' b:Int×Int×(List aX)×(List aH)×(List (Int×List aL))×(List aM)×List (Int×Int×Int×Int)):Option (UG⊕zcG):=
 ay (decide (t135<t134)) (
 ck ok<|
 ck ok<|
 ck ok<|
 aj (ok=true->(0:Int)<=t135/\t135<(↑a'.2.2.2.2.2.2.length:Int))<|
 ab ((Option.rec ((0:Int),(0:Int),(0:Int),(0:Int)) (fun val=>val) (q4 a').2.2[t135.toNat]?)) fun (v37:Int×Int×Int×Int)=>
 ck ok<|
 ck ok<|
 ck ok<|
 ck ok<|
 aj (ok=true->(0:Int)<=t135/\t135<(↑b.2.2.2.2.2.2.length:Int))<|
 ab ((Option.rec ((0:Int),(0:Int),(0:Int),(0:Int)) (fun val=>val) (q4 b).2.2[t135.toNat]?)) fun (mh:Int×Int×Int×Int)=>
 ck ok<|
 ck ok<|
 ck ok<|
 ab (v37==mh) fun v39=>
 ck ok<|
 ab (ok&&v39) fun v40=>
 ab (IntKind.i64.wrap (t135+(1:Int))) fun v41=>
 some (.inl (v40,t134,v41,a',b,()))) (
 some (.inr (.inl (ok,a',b,()))))
def UH(s:UG):Option zcG:=ct (fun s:UG=>Ki s.1 s.2.1 s.2.2.1 s.2.2.2.1 s.2.2.2.2.1) s
abbrev UI:Type:=Bool×Int×Int×Int×Int×(Int×Int×(List aX)×(List aH)×(List (Int×List aL))×(List aM)×List (Int×Int×Int×Int))×(Int×Int×(List aX)×(List aH)×(List (Int×List aL))×(List aM)×List (Int×Int×Int×Int))×Unit
abbrev zcH:Type:=(Bool×Int×Int×(Int×Int×(List aX)×(List aH)×(List (Int×List aL))×(List aM)×List (Int×Int×Int×Int))×(Int×Int×(List aX)×(List aH)×(List (Int×List aL))×(List aM)×List (Int×Int×Int×Int))×Unit)⊕(Bool×Unit)
def Kj(ok:Bool)(k i t155 t156:Int)(a' b:Int×Int×(List aX)×(List aH)×(List (Int×List aL))×(List aM)×List (Int×Int×Int×Int)):Option (UI⊕zcH):=
 ck ok<|
 ck ok<|
 ck ok<|
 aj (ok=true->(0:Int)<=k/\k<(↑a'.2.2.2.2.1.length:Int))<|
 ab ((Option.rec ((0:Int),[]) (fun val=>val) a'.2.2.2.2.1[k.toNat]?)) fun (v53:Int×List aL)=>
 ck ok<|
 ck ok<|
 ck ok<|
 ck ok<|
 ck ok<|
 ck ok<|
 ab (ok&&decide (i<(↑v53.2.length:Int))) fun v54=>
 ay v54 (
 aj ((0:Int)<=k/\k<(↑a'.2.2.2.2.1.length:Int))<|
 ab ((Option.rec ((0:Int),[]) (fun val=>val) a'.2.2.2.2.1[k.toNat]?)) fun (v55:Int×List aL)=>
 aj ((0:Int)<=i/\i<(↑v55.2.length:Int))<|
 ab ((Option.rec ko (fun val=>val) v55.2[i.toNat]?)) fun (Kk:Int×cH×Int)=>
 aj ((0:Int)<=k/\k<(↑b.2.2.2.2.1.length:Int))<|
 ab ((Option.rec ((0:Int),[]) (fun val=>val) b.2.2.2.2.1[k.toNat]?)) fun (OH:Int×List aL)=>
 aj ((0:Int)<=i/\i<(↑OH.2.length:Int))<|
 ab ((Option.rec ko (fun val=>val) OH.2[i.toNat]?)) fun (v58:Int×cH×Int)=>
 ab (Kk==v58) fun v59=>
 ab (IntKind.i64.wrap (i+(1:Int))) fun v60=>
 some (.inl (v59,k,v60,t155,t156,a',b,()))) (
 some (.inr (.inl (ok,t155,t156,a',b,()))))
def UJ(s:UI):Option zcH:=ct (fun s:UI=>Kj s.1 s.2.1 s.2.2.1 s.2.2.2.1 s.2.2.2.2.1 s.2.2.2.2.2.1 (q4 s).2.2.1) s
abbrev UK:Type:=Bool×Int×Int×(Int×Int×(List aX)×(List aH)×(List (Int×List aL))×(List aM)×List (Int×Int×Int×Int))×(Int×Int×(List aX)×(List aH)×(List (Int×List aL))×(List aM)×List (Int×Int×Int×Int))×Unit
abbrev zcI:Type:=(Bool×Unit)⊕(Bool×Unit)
def Kl(ok:Bool)(t155 t156:Int)(a' b:Int×Int×(List aX)×(List aH)×(List (Int×List aL))×(List aM)×List (Int×Int×Int×Int)):Option (UK⊕zcI):=
 ay (decide (t156<t155)) (
 ck ok<|
 ck ok<|
 ck ok<|
 aj (ok=true->(0:Int)<=t156/\t156<(↑a'.2.2.2.2.1.length:Int))<|
 ab ((Option.rec ((0:Int),[]) (fun val=>val) a'.2.2.2.2.1[t156.toNat]?)) fun (v45:Int×List aL)=>
 ck ok<|
 ck ok<|
 ck ok<|
 ck ok<|
 ck ok<|
 aj (ok=true->(0:Int)<=t156/\t156<(↑b.2.2.2.2.1.length:Int))<|
 ab ((Option.rec ((0:Int),[]) (fun val=>val) b.2.2.2.2.1[t156.toNat]?)) fun (v46:Int×List aL)=>
 ck ok<|
 ck ok<|
 ck ok<|
 ck ok<|
 ab (v45.1==v46.1) fun xi=>
 ck ok<|
 ab (ok&&xi) fun ie=>
 ck ie<|
 ck ie<|
 ck ie<|
 aj (ie=true->(0:Int)<=t156/\t156<(↑a'.2.2.2.2.1.length:Int))<|
 ab ((Option.rec ((0:Int),[]) (fun val=>val) a'.2.2.2.2.1[t156.toNat]?)) fun (v49:Int×List aL)=>
 ck ie<|
 ck ie<|
 ck ie<|
 ck ie<|
 ck ie<|
 ck ie<|
 aj (ie=true->(0:Int)<=t156/\t156<(↑b.2.2.2.2.1.length:Int))<|
 ab ((Option.rec ((0:Int),[]) (fun val=>val) b.2.2.2.2.1[t156.toNat]?)) fun (v50:Int×List aL)=>
 ck ie<|
 ck ie<|
 ck ie<|
 ck ie<|
 ck ie<|
 ab ((↑v49.2.length:Int)==(↑v50.2.length:Int)) fun v51=>
 ck ie<|
 ab (ie&&v51) fun v52=>
 ao (UJ (v52,t156,(0:Int),t155,t156,a',b,())) fun y61=>
 cC y61 (fun t62=>
 ab (IntKind.i64.wrap (t62.2.2.1+(1:Int))) fun v64=>
 some (.inl (t62.1,t62.2.1,v64,t62.2.2.2.1,t62.2.2.2.2.1,()))) (fun r63=>
 some (.inr (.inr r63)))) (
 some (.inr (.inl (ok,()))))
def UL(s:UK):Option zcI:=ct (fun s:UK=>Kl s.1 s.2.1 s.2.2.1 s.2.2.2.1 s.2.2.2.2.1) s
def lF(a' b:Int×Int×(List aX)×(List aH)×(List (Int×List aL))×(List aM)×List (Int×Int×Int×Int)):Option (Bool×Unit):=
 ab (a'.1 != b.1) fun v0=>
 ck (!v0)<|
 ck (!v0)<|
 ck (!v0)<|
 ck (!v0)<|
 ab (a'.2.1 != b.2.1) fun v1=>
 cn v0<|
 ab (v0||v1) fun v2=>
 ck (!v2)<|
 ck (!v2)<|
 ck (!v2)<|
 ck (!v2)<|
 ck (!v2)<|
 ck (!v2)<|
 ab ((↑a'.2.2.1.length:Int) != (↑b.2.2.1.length:Int)) fun v3=>
 cn v2<|
 ab (v2||v3) fun v4=>
 ck (!v4)<|
 ck (!v4)<|
 ck (!v4)<|
 ck (!v4)<|
 ck (!v4)<|
 ck (!v4)<|
 ab ((↑a'.2.2.2.1.length:Int) != (↑b.2.2.2.1.length:Int)) fun v5=>
 cn v4<|
 ab (v4||v5) fun v6=>
 ck (!v6)<|
 ck (!v6)<|
 ck (!v6)<|
 ck (!v6)<|
 ck (!v6)<|
 ck (!v6)<|
 ab ((↑a'.2.2.2.2.1.length:Int) != (↑b.2.2.2.2.1.length:Int)) fun v7=>
 cn v6<|
 ab (v6||v7) fun v8=>
 ck (!v8)<|
 ck (!v8)<|
 ck (!v8)<|
 ck (!v8)<|
 ck (!v8)<|
 ck (!v8)<|
 ab ((↑a'.2.2.2.2.2.1.length:Int) != (↑b.2.2.2.2.2.1.length:Int)) fun v9=>
 cn v8<|
 ab (v8||v9) fun v10=>
 ck (!v10)<|
 ck (!v10)<|
 ck (!v10)<|
 ck (!v10)<|
 ck (!v10)<|
 ck (!v10)<|
 ab ((↑a'.2.2.2.2.2.2.length:Int) != (↑b.2.2.2.2.2.2.length:Int)) fun v11=>
 cn v10<|
 ab (v10||v11) fun v12=>
 ay v12 (
 some (false,())) (
 ao (UB (true,(↑a'.2.2.1.length:Int),(0:Int),a',b,())) fun cA=>
 cC cA (fun t19=>
 ao (UD (t19.1,(↑t19.2.1.2.2.2.1.length:Int),(0:Int),t19.2.1,t19.2.2.1,())) fun qj=>
 cC qj (fun t27=>
 ao (UF (t27.1,(↑t27.2.1.2.2.2.2.2.1.length:Int),(0:Int),t27.2.1,t27.2.2.1,())) fun qk=>
 cC qk (fun t35=>
 ao (UH (t35.1,(↑t35.2.1.2.2.2.2.2.2.length:Int),(0:Int),t35.2.1,t35.2.2.1,())) fun y42=>
 cC y42 (fun t43=>
 ao (UL (t43.1,(↑t43.2.1.2.2.2.2.1.length:Int),(0:Int),t43.2.1,t43.2.2.1,())) fun y65=>
 cC y65 (fun t66=>
 some (t66.1,())) (fun r67=>
 some r67)) (fun r44=>
 some r44)) (fun r36=>
 some r36)) (fun r28=>
 some r28)) (fun Je=>
 some Je))
end
end Go.Tr
