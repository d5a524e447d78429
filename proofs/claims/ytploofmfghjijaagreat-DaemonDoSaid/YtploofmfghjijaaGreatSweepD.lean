/- The functions that these laws reach, as Lean functions: printed by a program of this session's. Conditions: none. -/
import Derived.Test.YtploofmfghjijaaGreatBD
import Derived.Test.YtploofmfghjijaaGreatBE
import Derived.Test.YtploofmfghjijaaGreatMacD
import Derived.Test.YtploofmfghjijaaGreatCodec1D
namespace Go.Tr
open Go
noncomputable section
set_option linter.unusedVariables false
set_option maxRecDepth 100000
def N6(s':(Int×Int)×Int×Int)(t1:Int×Int):Option (Bool×Unit):=
 ao (EL s'.1 t1) fun y0=>
 some (y0.1,())
abbrev TY:Type:=(List aH)×(Int×Int)×Int×Int×Unit
abbrev zbV:Type:=Unit⊕(Int×Unit)
def Jw(s':List aH)(ec:Int×Int)(t7 t8:Int):Option (TY⊕zbV):=
 ay (decide (t8<t7)) (
 aj ((0:Int)<=t8/\t8<(↑s'.length:Int))<|
 ab ((Option.rec c8 (fun val=>val) s'[t8.toNat]?)) fun (v0:(Int×Int)×Int×Int)=>
 ao (N6 v0 ec) fun y1=>
 ay y1.1 (
 some (.inr (.inr (t8,())))) (
 ab (IntKind.i64.wrap (t8+(1:Int))) fun v2=>
 some (.inl (s',ec,t7,v2,())))) (
 some (.inr (.inl ())))
def Jx(s:TY):Option zbV:=ct (fun s:TY=>Jw s.1 s.2.1 s.2.2.1 s.2.2.2.1) s
def N7(s':List aH)(ec:Int×Int):Option (Int×Unit):=
 ao (Jx (s',ec,(↑s'.length:Int),(0:Int),())) fun y3=>
 cC y3 (fun t4=>
 some ((-1:Int),())) (fun r5=>
 some r5)
def Jy(s':List aH)(ec:Int×Int):Option (Bool×Unit):=
 ao (N7 s' ec) fun y0=>
 some (decide (y0.1>=(0:Int)),())
def yV(xs:List aH):Option (List aH×Unit):=
 clone 32 xs
def ql(x y:(Int×Int)×Int×Int):Option (Int×Unit):=
 ab (IntKind.i64.wrap x.1.1) fun v0=>
 ab (IntKind.i64.wrap y.1.1) fun v1=>
 ab (IntKind.i64.wrap (v0-v1)) fun v2=>
 some (v2,())
def Jz(xs:List aH):Option (List aH×Unit):=
 SZ ql xs
def yW(ss:List aH)(b:Int×Int)(now:Int):Option (Int×(List aH)×Unit):=
 ao (vy b) fun y0=>
 ay (!y0.1) (
 some ((12:Int),[],())) (
 ao (vz b) fun y1=>
 ay (decide (y1.1>(256:Int))) (
 some ((3:Int),[],())) (
 ao (Jy ss b) fun y2=>
 ay y2.1 (
 some ((5:Int),[],())) (
 ay (decide ((↑ss.length:Int)>=(16:Int))) (
 some ((4:Int),[],())) (
 ao (yV ss) fun y3=>
 ao (kW now) fun y4=>
 aj (room (32:Nat) (y3.1.length+[(b,y4.1,(0:Int))].length))<|
 ao (Jz (y3.1++[(b,y4.1,(0:Int))])) fun y5=>
 some ((0:Int),y5.1,())))))
def JA(x y:Int)(t2:List aH):Option (Int×Unit):=
 aj ((0:Int)<=x/\x<(↑(List.length t2):Int))<|
 ab ((Option.rec c8 (fun val=>val) t2[x.toNat]?)) fun (v0:(Int×Int)×Int×Int)=>
 aj ((0:Int)<=y/\y<(↑(List.length t2):Int))<|
 ab ((Option.rec c8 (fun val=>val) t2[y.toNat]?)) fun (v1:(Int×Int)×Int×Int)=>
 ab (IntKind.i64.wrap (v0.2.1-v1.2.1)) fun v2=>
 some (v2,())
abbrev TZ:Type:=Int×Int×Int×Int×(List Int)×(List aH)×Unit
abbrev zbW:Type:=(Int×Int×Int×(List Int)×(List aH)×Unit)⊕((List Int)×(List aH)×Unit)
def N8(a' b i j:Int)(data:List Int)(o1:List aH):Option (TZ⊕zbW):=
 aj (decide (j>a')=true->decide (j>a')=true)<|
 aj (decide (j>a')=true->decide (j>a')=true)<|
 aj (decide (j>a')=true->(0:Int)<=j/\j<(↑data.length:Int))<|
 aj (decide (j>a')=true->decide (j>a')=true)<|
 aj (decide (j>a')=true->j.toNat<data.length)<|
 aj (decide (j>a')=true->decide (j>a')=true)<|
 ab (IntKind.i64.wrap (j-(1:Int))) fun v1=>
 aj (decide (j>a')=true->decide (j>a')=true)<|
 aj (decide (j>a')=true->decide (j>a')=true)<|
 aj (decide (j>a')=true->(0:Int)<=v1/\v1<(↑data.length:Int))<|
 aj (decide (j>a')=true->decide (j>a')=true)<|
 aj (decide (j>a')=true->v1.toNat<data.length)<|
 aj (decide (j>a')=true->decide (j>a')=true)<|
 aj (decide (j>a')=true->decide (j>a')=true)<|
 aj (decide (j>a')=true->decide (j>a')=true)<|
 bU (decide (j>a')) (JA (data.getD j.toNat (0:Int)) (data.getD v1.toNat (0:Int)) o1) ((0:Int),()) fun y2=>
 aj (decide (j>a')=true->decide (j>a')=true)<|
 aj (decide (j>a')=true->decide (j>a')=true)<|
 ab (decide (j>a')&&decide (y2.1<(0:Int))) fun v3=>
 ay v3 (
 ab (IntKind.i64.wrap (j-(1:Int))) fun v4=>
 ab (IntKind.i64.wrap (j-(1:Int))) fun v5=>
 aj ((0:Int)<=v5/\v5<(↑data.length:Int))<|
 aj (v5.toNat<data.length)<|
 aj ((0:Int)<=j/\j<(↑data.length:Int))<|
 aj (j.toNat<data.length)<|
 aj ((0:Int)<=j/\j<(↑data.length:Int))<|
 aj (j.toNat<data.length)<|
 aj ((0:Int)<=v4/\v4<(↑(data.set j.toNat (data.getD v5.toNat (0:Int))).length:Int))<|
 aj (v4.toNat<(data.set j.toNat (data.getD v5.toNat (0:Int))).length)<|
 ab (IntKind.i64.wrap (j-(1:Int))) fun v6=>
 some (.inl (a',b,i,v6,(data.set j.toNat (data.getD v5.toNat (0:Int))).set v4.toNat (data.getD j.toNat (0:Int)),o1,()))) (
 some (.inr (.inl (a',b,i,data,o1,()))))
def JB(s:TZ):Option zbW:=ct (fun s:TZ=>N8 s.1 s.2.1 s.2.2.1 s.2.2.2.1 s.2.2.2.2.1 s.2.2.2.2.2.1) s
abbrev T1:Type:=Int×Int×Int×(List Int)×(List aH)×Unit
abbrev zbX:Type:=((List Int)×(List aH)×Unit)⊕((List Int)×(List aH)×Unit)
def JC(a' b i:Int)(data:List Int)(o1:List aH):Option (T1⊕zbX):=
 ay (decide (i<b)) (
 ao (JB (a',b,i,i,data,o1,())) fun y7=>
 cC y7 (fun t8=>
 ab (IntKind.i64.wrap (t8.2.2.1+(1:Int))) fun v10=>
 some (.inl (t8.1,t8.2.1,v10,t8.2.2.2.1,t8.2.2.2.2.1,()))) (fun r9=>
 some (.inr (.inr r9)))) (
 some (.inr (.inl (data,o1,()))))
def JD(s:T1):Option zbX:=ct (fun s:T1=>JC s.1 s.2.1 s.2.2.1 s.2.2.2.1 s.2.2.2.2.1) s
def E7(a' b:Int)(data:List Int)(o1:List aH):Option ((List Int)×(List aH)×Unit):=
 ab (IntKind.i64.wrap (a'+(1:Int))) fun v0=>
 ao (JD (a',b,v0,data,o1,())) fun bY=>
 cC bY (fun t12=>
 some (t12.1,t12.2.1,())) (fun BE=>
 some BE)
def N9(x0:(List Int))(x1 x2 x3:Int)(x4:(List aH)):Option Unit:=
 none
abbrev T2:Type:=Int×Int×Int×Int×(List Int)×(List aH)×Unit
abbrev zbY:Type:=(Int×Int×Int×(List Int)×(List aH)×Unit)⊕((List Int)×(List aH)×Unit)
def zbZ(n sO a' b:Int)(data:List Int)(o1:List aH):Option (T2⊕zbY):=
 ay (decide (b<=n)) (
 ao (E7 a' b data o1) fun y0=>
 ab (IntKind.i64.wrap (b+sO)) fun v1=>
 some (.inl (n,sO,b,v1,y0.1,y0.2.1,()))) (
 some (.inr (.inl (n,sO,a',data,o1,()))))
def T3(s:T2):Option zbY:=ct (fun s:T2=>zbZ s.1 s.2.1 s.2.2.1 s.2.2.2.1 s.2.2.2.2.1 s.2.2.2.2.2.1) s
abbrev T4:Type:=Int×Int×Int×Int×(List Int)×(List aH)×Unit
abbrev zb0:Type:=(Int×Int×Int×(List Int)×(List aH)×Unit)⊕((List Int)×(List aH)×Unit)
def zp5(n sO a' b:Int)(data:List Int)(o1:List aH):Option (T4⊕zb0):=
 ay (decide (b<=n)) (
 ab (IntKind.i64.wrap (a'+sO)) fun v7=>
 ao (N9 data a' v7 b o1) fun y8=>
 ab (IntKind.i64.wrap ((2:Int)*sO)) fun v9=>
 ab (IntKind.i64.wrap (b+v9)) fun v10=>
 some (.inl (n,sO,b,v10,data,o1,()))) (
 some (.inr (.inl (n,sO,a',data,o1,()))))
def zp6(s:T4):Option zb0:=ct (fun s:T4=>zp5 s.1 s.2.1 s.2.2.1 s.2.2.2.1 s.2.2.2.2.1 s.2.2.2.2.2.1) s
abbrev T5:Type:=Int×Int×(List Int)×(List aH)×Unit
abbrev zb1:Type:=((List Int)×(List aH)×Unit)⊕((List Int)×(List aH)×Unit)
def zb2(n sO:Int)(data:List Int)(o1:List aH):Option (T5⊕zb1):=
 ay (decide (sO<n)) (
 ab (IntKind.i64.wrap ((2:Int)*sO)) fun v6=>
 ao (zp6 (n,sO,(0:Int),v6,data,o1,())) fun bY=>
 cC bY (fun t12=>
 ab (IntKind.i64.wrap (t12.2.2.1+t12.2.1)) fun gM=>
 ay (decide (gM<t12.1)) (
 ao (N9 t12.2.2.2.1 t12.2.2.1 gM t12.1 t12.2.2.2.2.1) fun gN=>
 ab (IntKind.i64.wrap (t12.2.1*(2:Int))) fun gr=>
 some (.inl (t12.1,gr,t12.2.2.2.1,t12.2.2.2.2.1,()))) (
 ab (IntKind.i64.wrap (t12.2.1*(2:Int))) fun v17=>
 some (.inl (t12.1,v17,t12.2.2.2.1,t12.2.2.2.2.1,())))) (fun BE=>
 some (.inr (.inr BE)))) (
 some (.inr (.inl (data,o1,()))))
def T6(s:T5):Option zb1:=ct (fun s:T5=>zb2 s.1 s.2.1 s.2.2.1 s.2.2.2.1) s
def Oa(n:Int)(data:List Int)(o1:List aH):Option ((List Int)×(List aH)×Unit):=
 ao (T3 (n,(20:Int),(0:Int),(20:Int),data,o1,())) fun y2=>
 cC y2 (fun t3=>
 ao (E7 t3.2.2.1 t3.1 t3.2.2.2.1 t3.2.2.2.2.1) fun y5=>
 ao (T6 (t3.1,t3.2.1,y5.1,y5.2.1,())) fun cA=>
 cC cA (fun t19=>
 some (t19.1,t19.2.1,())) (fun Je=>
 some Je)) (fun r4=>
 some r4)
def JF(x:List Int)(o1:List aH):Option ((List Int)×(List aH)×Unit):=
 ao (Oa ((↑x.length:Int)) x o1) fun y0=>
 some (y0.1,y0.2.1,())
abbrev T7:Type:=Int×(List aH)×Int×Int×(List Int)×(List aH)×Unit
abbrev zb3:Type:=((List aH)×(List Int)×Unit)⊕((List Int)×Unit)
def JG(now:Int)(t8:List aH)(t9 t10:Int)(out:List Int)(ss:List aH):Option (T7⊕zb3):=
 ay (decide (t10<t9)) (
 aj ((0:Int)<=t10/\t10<(↑t8.length:Int))<|
 ab ((Option.rec c8 (fun val=>val) t8[t10.toNat]?)) fun (v0:(Int×Int)×Int×Int)=>
 ay (decide (v0.2.1<=now)) (
 aj (room (8:Nat) (out.length+[t10].length))<|
 ab (IntKind.i64.wrap (t10+(1:Int))) fun v1=>
 some (.inl (now,t8,t9,v1,out++[t10],ss,()))) (
 ab (IntKind.i64.wrap (t10+(1:Int))) fun v2=>
 some (.inl (now,t8,t9,v2,out,ss,())))) (
 some (.inr (.inl (ss,out,()))))
def T8(s:T7):Option zb3:=ct (fun s:T7=>JG s.1 s.2.1 s.2.2.1 s.2.2.2.1 s.2.2.2.2.1 s.2.2.2.2.2.1) s
def JH(ss:List aH)(now:Int):Option ((List Int)×Unit):=
 ao (T8 (now,ss,(↑ss.length:Int),(0:Int),[],ss,())) fun y3=>
 cC y3 (fun t4=>
 ao (JF t4.2.1 t4.1) fun y6=>
 some (y6.1,())) (fun r5=>
 some r5)
def E8(t n:Int):Option (Int×Unit):=
 ao (kW t) fun y0=>
 ab (IntKind.i64.wrap (y0.1+if (if (1099511627776:Int)<n then (1099511627776:Int) else n)>(-1099511627776:Int) then if (1099511627776:Int)<n then (1099511627776:Int) else n else (-1099511627776:Int))) fun v1=>
 ao (kW v1) fun y2=>
 some (y2.1,())
def yX(x:Int×Int×Int×Int×Int×Int×Int×Int×Int):Option (bD×Unit):=
 aj (¬(30:Int)=(0:Int))<|
 ab (x.1.tmod (30:Int)) fun v0=>
 ab (IntKind.i64.wrap v0) fun v1=>
 ab (IntKind.i64.wrap ((1:Int)+v1)) fun v2=>
 aj (¬(60:Int)=(0:Int))<|
 ab (x.2.1.tmod (60:Int)) fun v3=>
 ab (IntKind.i64.wrap v3) fun v4=>
 ab (IntKind.i64.wrap (v2+v4)) fun v5=>
 aj (¬(6:Int)=(0:Int))<|
 ab (x.2.2.1.tmod (6:Int)) fun v6=>
 ab (IntKind.i64.wrap v6) fun v7=>
 ab (IntKind.i64.wrap ((1:Int)+v7)) fun v8=>
 aj (¬(20:Int)=(0:Int))<|
 ab (x.2.2.2.1.tmod (20:Int)) fun v9=>
 ab (IntKind.i64.wrap v9) fun v10=>
 ab (IntKind.i64.wrap ((1:Int)+v10)) fun v11=>
 aj (¬(9:Int)=(0:Int))<|
 ab (x.2.2.2.2.1.tmod (9:Int)) fun v12=>
 ab (IntKind.i64.wrap v12) fun jt=>
 ab (IntKind.i64.wrap ((1:Int)+jt)) fun gM=>
 aj (¬(6:Int)=(0:Int))<|
 ab (x.2.2.2.2.2.1.tmod (6:Int)) fun ic=>
 ab (IntKind.i64.wrap ic) fun gr=>
 ab (IntKind.i64.wrap ((1:Int)+gr)) fun v17=>
 aj (¬(4:Int)=(0:Int))<|
 ab (x.2.2.2.2.2.2.1.tmod (4:Int)) fun mn=>
 ab (IntKind.i64.wrap mn) fun iW=>
 aj (¬(40:Int)=(0:Int))<|
 ab (x.2.2.2.2.2.2.2.1.tmod (40:Int)) fun v20=>
 ab (IntKind.i64.wrap v20) fun v21=>
 ab (IntKind.i64.wrap ((1:Int)+v21)) fun v22=>
 aj (¬(50:Int)=(0:Int))<|
 ab (x.2.2.2.2.2.2.2.2.tmod (50:Int)) fun v23=>
 ab (IntKind.i64.wrap v23) fun v24=>
 some ((v2,v5,v8,v11,gM,v17,iW,v22,v24),())
def Oc(s':(Int×Int)×Int×Int)(t1:Int×Int):Option (Bool×Unit):=
 ab (s'.1.1==t1.1&&s'.1.2==t1.2) fun v0=>
 some (v0,())
abbrev T9:Type:=(List aH)×(Int×Int)×Int×Int×Unit
abbrev zb4:Type:=Unit⊕(Int×Unit)
def BF(s':List aH)(ec:Int×Int)(t7 t8:Int):Option (T9⊕zb4):=
 ay (decide (t8<t7)) (
 aj ((0:Int)<=t8/\t8<(↑s'.length:Int))<|
 ab ((Option.rec c8 (fun val=>val) s'[t8.toNat]?)) fun (v0:(Int×Int)×Int×Int)=>
 ao (Oc v0 ec) fun y1=>
 ay y1.1 (
 some (.inr (.inr (t8,())))) (
 ab (IntKind.i64.wrap (t8+(1:Int))) fun v2=>
 some (.inl (s',ec,t7,v2,())))) (
 some (.inr (.inl ())))
def zb5(s:T9):Option zb4:=ct (fun s:T9=>BF s.1 s.2.1 s.2.2.1 s.2.2.2.1) s
def JI(s':List aH)(ec:Int×Int):Option (Int×Unit):=
 ao (zb5 (s',ec,(↑s'.length:Int),(0:Int),())) fun y3=>
 cC y3 (fun t4=>
 some ((-1:Int),())) (fun r5=>
 some r5)
end
end Go.Tr
