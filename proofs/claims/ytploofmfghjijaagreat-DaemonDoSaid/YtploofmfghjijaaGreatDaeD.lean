/- The functions that these laws reach, as Lean functions: printed by a program of this session's. Conditions: none. -/
import Derived.Test.YtploofmfghjijaaGreatBD
import Derived.Test.YtploofmfghjijaaGreatBE
import Derived.Test.YtploofmfghjijaaGreatMacD
import Derived.Test.YtploofmfghjijaaGreatCodec1D
import Derived.Test.YtploofmfghjijaaGreatOpsD
import Derived.Test.YtploofmfghjijaaGreatSweepD
import Derived.Test.YtploofmfghjijaaGreatSweep2D
namespace Go.Tr
open Go
noncomputable section
set_option linter.unusedVariables false
set_option maxRecDepth 100000
def oB(size:Int):Option ((List (Int×List Int))×Int×Int×Bool×Int×(List (List Int))×Unit):=
 aj (((0:Int)<=if (if (512:Int)<size then (512:Int) else size)>(0:Int) then if (512:Int)<size then (512:Int) else size else (0:Int))/\((if (if (512:Int)<size then (512:Int) else size)>(0:Int) then if (512:Int)<size then (512:Int) else size else (0:Int))<=if (if (512:Int)<size then (512:Int) else size)>(0:Int) then if (512:Int)<size then (512:Int) else size else (0:Int))/\(if (if (512:Int)<size then (512:Int) else size)>(0:Int) then if (512:Int)<size then (512:Int) else size else (0:Int))<(9223372036854775808:Int)/\room (64:Nat) (if (if (512:Int)<size then (512:Int) else size)>(0:Int) then if (512:Int)<size then (512:Int) else size else (0:Int)).toNat)<|
 some ([],(-1:Int),(-1:Int),false,(0:Int),List.replicate (if (if (512:Int)<size then (512:Int) else size)>(0:Int) then if (512:Int)<size then (512:Int) else size else (0:Int)).toNat (List.replicate (64:Nat) (0:Int)),())
def OI(d:(List (List Int))×(List (Int×List Int))×Int×Int×Bool×Int):Option (Int×Unit):=
 some ((↑d.1.length:Int),())
def qm(l:((List (List Int))×(List (Int×List Int))×Int×Int×Bool×Int)×Int×Int×Int×(List (List Int))×Bool):Option (Int×Unit):=
 ao (OI l.1) fun y0=>
 aj (¬(2:Int)=(0:Int))<|
 ab (IntKind.i64.wrap (y0.1.tdiv (2:Int))) fun v1=>
 some (v1,())
def OJ(d:(List (List Int))×(List (Int×List Int))×Int×Int×Bool×Int):Option (Bool×Unit):=
 some (d.2.2.2.2.1,())
abbrev UM:Type:=Int×Nat×Nat×(List (Int×List Int))×Int×Int×(List (List Int))×(List (List Int))×Unit
abbrev zcJ:Type:=(Nat×Nat×(List (List Int))×(List (List Int))×Unit)⊕((List Int)×Int×Unit)
def Km(at':Int)(t4 out:Nat)(t38:List (Int×List Int))(t39 t40:Int)(x qn:List (List Int)):Option (UM⊕zcJ):=
 ay (decide (t40<t39)) (
 aj ((0:Int)<=t40/\t40<(↑t38.length:Int))<|
 ab ((Option.rec ((0:Int),List.replicate (64:Nat) (0:Int)) (fun val=>val) t38[t40.toNat]?)) fun (v2:Int×List Int)=>
 aj ((0:Nat)<(1:Nat))<|
 aj ((0:Nat)<([((0:Int),List.replicate (64:Nat) (0:Int))].set (0:Nat) v2).length)<|
 ab ((([((0:Int),List.replicate (64:Nat) (0:Int))].set (0:Nat) v2).getD (0:Nat) ((0:Int),List.replicate (64:Nat) (0:Int))).1==at') fun v3=>
 ay v3 (
 aj ((0:Nat)<([((0:Int),List.replicate (64:Nat) (0:Int))].set (0:Nat) v2).length)<|
 aj (out<qn.length)<|
 ab (IntKind.i64.wrap (t40+(1:Int))) fun v4=>
 some (.inl (at',t4,out,t38,t39,v4,x,qn.set out (([((0:Int),List.replicate (64:Nat) (0:Int))].set (0:Nat) v2).getD (0:Nat) ((0:Int),List.replicate (64:Nat) (0:Int))).2,()))) (
 ab (IntKind.i64.wrap (t40+(1:Int))) fun v5=>
 some (.inl (at',t4,out,t38,t39,v5,x,qn,())))) (
 some (.inr (.inl (t4,out,x,qn,()))))
def UN(s:UM):Option zcJ:=ct (fun s:UM=>Km s.1 s.2.1 s.2.2.1 s.2.2.2.1 s.2.2.2.2.1 s.2.2.2.2.2.1 (q4 s).2.2.1 (q4 s).2.2.2.1) s
def Fu(d:(List (List Int))×(List (Int×List Int))×Int×Int×Bool×Int)(at':Int):Option ((List Int)×Int×Unit):=
 ay d.2.2.2.2.1 (
 aj ((0:Nat)<(1:Nat))<|
 aj ((0:Nat)<(1:Nat))<|
 some (([List.replicate (64:Nat) (0:Int)].set (0:Nat) (List.replicate (64:Nat) (0:Int))).getD (0:Nat) (List.replicate (64:Nat) (0:Int)),(9:Int),())) (
 ck (!decide (at'<(0:Int)))<|
 ck (!decide (at'<(0:Int)))<|
 ck (!decide (at'<(0:Int)))<|
 ck (!decide (at'<(0:Int)))<|
 ck (!decide (at'<(0:Int)))<|
 ck (!decide (at'<(0:Int)))<|
 aj (decide (at'<(0:Int))=false->(!decide (at'<(0:Int)))=true)<|
 ab (decide (at'<(0:Int))||decide (at'>=(↑d.1.length:Int))) fun v0=>
 ay v0 (
 aj ((0:Nat)<(1:Nat))<|
 aj ((0:Nat)<(1:Nat))<|
 some (([List.replicate (64:Nat) (0:Int)].set (0:Nat) (List.replicate (64:Nat) (0:Int))).getD (0:Nat) (List.replicate (64:Nat) (0:Int)),(3:Int),())) (
 aj ((0:Int)<=at'/\at'<(↑d.1.length:Int))<|
 ab (d.1.getD at'.toNat (List.replicate (64:Nat) (0:Int))) fun (v1:List Int)=>
 aj ((0:Nat)<(1:Nat))<|
 ao (UN (at',(0:Nat),(0:Nat),d.2.1,(↑d.2.1.length:Int),(0:Int),[List.replicate (64:Nat) (0:Int)],[List.replicate (64:Nat) (0:Int)].set (0:Nat) v1,())) fun y6=>
 cC y6 (fun t7=>
 aj (t7.2.1<t7.2.2.2.1.length)<|
 aj (t7.1<t7.2.2.1.length)<|
 aj (t7.1<(t7.2.2.1.set t7.1 (t7.2.2.2.1.getD t7.2.1 (List.replicate (64:Nat) (0:Int)))).length)<|
 some ((t7.2.2.1.set t7.1 (t7.2.2.2.1.getD t7.2.1 (List.replicate (64:Nat) (0:Int)))).getD t7.1 (List.replicate (64:Nat) (0:Int)),(0:Int),())) (fun r8=>
 some r8)))
abbrev UO:Type:=Int×(List Int)×Int×Int×Unit
abbrev zcK:Type:=(Int×Unit)⊕(Int×Unit)
def Kn(n:Int)(t6:List Int)(t7 t8:Int):Option (UO⊕zcK):=
 ay (decide (t8<t7)) (
 aj ((0:Int)<=t8/\t8<(↑t6.length:Int))<|
 ab (t6.getD t8.toNat (0:Int)) fun v0=>
 aj ((0:Int)<=(8:Int))<|
 ab (we IntKind.i64 n (8:Int)) fun v1=>
 ab (IntKind.i64.wrap v0) fun v2=>
 ab (IntKind.i64.wrap (wb IntKind.i64 v1 v2)) fun v3=>
 ab (IntKind.i64.wrap (t8+(1:Int))) fun v4=>
 some (.inl (v3,t6,t7,v4,()))) (
 some (.inr (.inl (n,()))))
def UP(s:UO):Option zcK:=ct (fun s:UO=>Kn s.1 s.2.1 s.2.2.1 s.2.2.2.1) s
def zg(b:List Int):Option (Int×Unit):=
 ao (UP ((0:Int),b,(↑b.length:Int),(0:Int),())) fun y5=>
 cC y5 (fun t6=>
 some (t6.1,())) (fun r7=>
 some r7)
def sP(n:Int):Option (Int×Unit):=
 ab (IntKind.i64.wrap (n+(64:Int))) fun v0=>
 ab (IntKind.i64.wrap (v0-(1:Int))) fun v1=>
 aj (¬(64:Int)=(0:Int))<|
 ab (IntKind.i64.wrap (v1.tdiv (64:Int))) fun v2=>
 ab (IntKind.i64.wrap ((1:Int)+v2)) fun v3=>
 some (v3,())
abbrev UQ:Type:=Int×(List Int)×Int×Int×Int×Unit
abbrev zcL:Type:=(Int×(List Int)×Int×Int×Unit)⊕(Int×Unit)
def Ko(n:Int)(t7:List Int)(t8 t9 t17:Int):Option (UQ⊕zcL):=
 ay (decide (t17<(8:Int))) (
 ab (IntKind.u32.wrap (lr IntKind.u32 n (1:Int))) fun v3=>
 aj ((0:Int)<=(1:Int))<|
 ab (rZ IntKind.u32 n (1:Int)) fun v4=>
 ab (v3==(1:Int)) fun v5=>
 ay v5 (
 ab (IntKind.u32.wrap (uP IntKind.u32 v4 (2197175160:Int))) fun v6=>
 ab (IntKind.i64.wrap (t17+(1:Int))) fun v7=>
 some (.inl (v6,t7,t8,t9,v7,()))) (
 ab (IntKind.i64.wrap (t17+(1:Int))) fun v8=>
 some (.inl (v4,t7,t8,t9,v8,())))) (
 some (.inr (.inl (n,t7,t8,t9,()))))
def UR(s:UQ):Option zcL:=ct (fun s:UQ=>Ko s.1 s.2.1 s.2.2.1 s.2.2.2.1 s.2.2.2.2.1) s
abbrev US:Type:=Int×(List Int)×Int×Int×Unit
abbrev zcM:Type:=(Int×Unit)⊕(Int×Unit)
def Kp(n:Int)(t7:List Int)(t8 t9:Int):Option (US⊕zcM):=
 ay (decide (t9<t8)) (
 aj ((0:Int)<=t9/\t9<(↑t7.length:Int))<|
 ab (t7.getD t9.toNat (0:Int)) fun v0=>
 ab (IntKind.u32.wrap v0) fun v1=>
 ab (IntKind.u32.wrap (uP IntKind.u32 n v1)) fun v2=>
 ao (UR (v2,t7,t8,t9,(0:Int),())) fun y9=>
 cC y9 (fun t10=>
 ab (IntKind.i64.wrap (t10.2.2.2.1+(1:Int))) fun v12=>
 some (.inl (t10.1,t10.2.1,t10.2.2.1,v12,()))) (fun UT=>
 some (.inr (.inr UT)))) (
 some (.inr (.inl (n,()))))
def UU(s:US):Option zcM:=ct (fun s:US=>Kp s.1 s.2.1 s.2.2.1 s.2.2.2.1) s
def Kq(b:List Int):Option (Int×Unit):=
 ao (UU ((4294967295:Int),b,(↑b.length:Int),(0:Int),())) fun dR=>
 cC dR (fun t14=>
 ab (IntKind.u32.wrap (uP IntKind.u32 (4294967295:Int) t14.1)) fun gr=>
 some (gr,())) (fun sM=>
 some sM)
def Fv(kind n:Int)(b:List Int):Option ((List Int)×Unit):=
 aj ((0:Int)<=(0:Int)/\(0:Int)<=(2:Int)/\(2:Int)<=(64:Int))<|
 ao (aj ((0:Nat)<(1:Nat)/\(2:Nat)<=(8:Nat)) ((
 some ()))) fun y0=>
 aj ((0:Int)<=(2:Int)/\(2:Int)<=(6:Int)/\(6:Int)<=(64:Int))<|
 ao (aj ((0:Nat)<([List.replicate (64:Nat) (0:Int)].set (0:Nat) (bH (0:Nat) (2:Nat) (layB (↑b.length:Int) (2:Nat)) ([List.replicate (64:Nat) (0:Int)].getD (0:Nat) (List.replicate (64:Nat) (0:Int))))).length/\(4:Nat)<=(8:Nat)) ((
 some ()))) fun y1=>
 aj ((0:Int)<=(6:Int)/\(6:Int)<=(10:Int)/\(10:Int)<=(64:Int))<|
 ao (Kq b) fun y2=>
 ab (IntKind.i64.wrap y2.1) fun v3=>
 ao (aj ((0:Nat)<(([List.replicate (64:Nat) (0:Int)].set (0:Nat) (bH (0:Nat) (2:Nat) (layB (↑b.length:Int) (2:Nat)) ([List.replicate (64:Nat) (0:Int)].getD (0:Nat) (List.replicate (64:Nat) (0:Int))))).set (0:Nat) (bH (2:Nat) (4:Nat) (layB n (4:Nat)) (([List.replicate (64:Nat) (0:Int)].set (0:Nat) (bH (0:Nat) (2:Nat) (layB (↑b.length:Int) (2:Nat)) ([List.replicate (64:Nat) (0:Int)].getD (0:Nat) (List.replicate (64:Nat) (0:Int))))).getD (0:Nat) (List.replicate (64:Nat) (0:Int))))).length/\(4:Nat)<=(8:Nat)) ((
 some ()))) fun y4=>
 ab (IntKind.u8.wrap kind) fun v5=>
 aj ((0:Int)<=(10:Int)/\(10:Int)<(64:Int))<|
 aj ((0:Nat)<((([List.replicate (64:Nat) (0:Int)].set (0:Nat) (bH (0:Nat) (2:Nat) (layB (↑b.length:Int) (2:Nat)) ([List.replicate (64:Nat) (0:Int)].getD (0:Nat) (List.replicate (64:Nat) (0:Int))))).set (0:Nat) (bH (2:Nat) (4:Nat) (layB n (4:Nat)) (([List.replicate (64:Nat) (0:Int)].set (0:Nat) (bH (0:Nat) (2:Nat) (layB (↑b.length:Int) (2:Nat)) ([List.replicate (64:Nat) (0:Int)].getD (0:Nat) (List.replicate (64:Nat) (0:Int))))).getD (0:Nat) (List.replicate (64:Nat) (0:Int))))).set (0:Nat) (bH (6:Nat) (4:Nat) (layB v3 (4:Nat)) ((([List.replicate (64:Nat) (0:Int)].set (0:Nat) (bH (0:Nat) (2:Nat) (layB (↑b.length:Int) (2:Nat)) ([List.replicate (64:Nat) (0:Int)].getD (0:Nat) (List.replicate (64:Nat) (0:Int))))).set (0:Nat) (bH (2:Nat) (4:Nat) (layB n (4:Nat)) (([List.replicate (64:Nat) (0:Int)].set (0:Nat) (bH (0:Nat) (2:Nat) (layB (↑b.length:Int) (2:Nat)) ([List.replicate (64:Nat) (0:Int)].getD (0:Nat) (List.replicate (64:Nat) (0:Int))))).getD (0:Nat) (List.replicate (64:Nat) (0:Int))))).getD (0:Nat) (List.replicate (64:Nat) (0:Int))))).length)<|
 aj ((0:Int)<=(11:Int)/\(11:Int)<(64:Int))<|
 aj ((0:Nat)<(((([List.replicate (64:Nat) (0:Int)].set (0:Nat) (bH (0:Nat) (2:Nat) (layB (↑b.length:Int) (2:Nat)) ([List.replicate (64:Nat) (0:Int)].getD (0:Nat) (List.replicate (64:Nat) (0:Int))))).set (0:Nat) (bH (2:Nat) (4:Nat) (layB n (4:Nat)) (([List.replicate (64:Nat) (0:Int)].set (0:Nat) (bH (0:Nat) (2:Nat) (layB (↑b.length:Int) (2:Nat)) ([List.replicate (64:Nat) (0:Int)].getD (0:Nat) (List.replicate (64:Nat) (0:Int))))).getD (0:Nat) (List.replicate (64:Nat) (0:Int))))).set (0:Nat) (bH (6:Nat) (4:Nat) (layB v3 (4:Nat)) ((([List.replicate (64:Nat) (0:Int)].set (0:Nat) (bH (0:Nat) (2:Nat) (layB (↑b.length:Int) (2:Nat)) ([List.replicate (64:Nat) (0:Int)].getD (0:Nat) (List.replicate (64:Nat) (0:Int))))).set (0:Nat) (bH (2:Nat) (4:Nat) (layB n (4:Nat)) (([List.replicate (64:Nat) (0:Int)].set (0:Nat) (bH (0:Nat) (2:Nat) (layB (↑b.length:Int) (2:Nat)) ([List.replicate (64:Nat) (0:Int)].getD (0:Nat) (List.replicate (64:Nat) (0:Int))))).getD (0:Nat) (List.replicate (64:Nat) (0:Int))))).getD (0:Nat) (List.replicate (64:Nat) (0:Int))))).set (0:Nat) ((((([List.replicate (64:Nat) (0:Int)].set (0:Nat) (bH (0:Nat) (2:Nat) (layB (↑b.length:Int) (2:Nat)) ([List.replicate (64:Nat) (0:Int)].getD (0:Nat) (List.replicate (64:Nat) (0:Int))))).set (0:Nat) (bH (2:Nat) (4:Nat) (layB n (4:Nat)) (([List.replicate (64:Nat) (0:Int)].set (0:Nat) (bH (0:Nat) (2:Nat) (layB (↑b.length:Int) (2:Nat)) ([List.replicate (64:Nat) (0:Int)].getD (0:Nat) (List.replicate (64:Nat) (0:Int))))).getD (0:Nat) (List.replicate (64:Nat) (0:Int))))).set (0:Nat) (bH (6:Nat) (4:Nat) (layB v3 (4:Nat)) ((([List.replicate (64:Nat) (0:Int)].set (0:Nat) (bH (0:Nat) (2:Nat) (layB (↑b.length:Int) (2:Nat)) ([List.replicate (64:Nat) (0:Int)].getD (0:Nat) (List.replicate (64:Nat) (0:Int))))).set (0:Nat) (bH (2:Nat) (4:Nat) (layB n (4:Nat)) (([List.replicate (64:Nat) (0:Int)].set (0:Nat) (bH (0:Nat) (2:Nat) (layB (↑b.length:Int) (2:Nat)) ([List.replicate (64:Nat) (0:Int)].getD (0:Nat) (List.replicate (64:Nat) (0:Int))))).getD (0:Nat) (List.replicate (64:Nat) (0:Int))))).getD (0:Nat) (List.replicate (64:Nat) (0:Int))))).getD (0:Nat) (List.replicate (64:Nat) (0:Int))).set (10:Nat) v5)).length)<|
 aj ((0:Nat)<((((([List.replicate (64:Nat) (0:Int)].set (0:Nat) (bH (0:Nat) (2:Nat) (layB (↑b.length:Int) (2:Nat)) ([List.replicate (64:Nat) (0:Int)].getD (0:Nat) (List.replicate (64:Nat) (0:Int))))).set (0:Nat) (bH (2:Nat) (4:Nat) (layB n (4:Nat)) (([List.replicate (64:Nat) (0:Int)].set (0:Nat) (bH (0:Nat) (2:Nat) (layB (↑b.length:Int) (2:Nat)) ([List.replicate (64:Nat) (0:Int)].getD (0:Nat) (List.replicate (64:Nat) (0:Int))))).getD (0:Nat) (List.replicate (64:Nat) (0:Int))))).set (0:Nat) (bH (6:Nat) (4:Nat) (layB v3 (4:Nat)) ((([List.replicate (64:Nat) (0:Int)].set (0:Nat) (bH (0:Nat) (2:Nat) (layB (↑b.length:Int) (2:Nat)) ([List.replicate (64:Nat) (0:Int)].getD (0:Nat) (List.replicate (64:Nat) (0:Int))))).set (0:Nat) (bH (2:Nat) (4:Nat) (layB n (4:Nat)) (([List.replicate (64:Nat) (0:Int)].set (0:Nat) (bH (0:Nat) (2:Nat) (layB (↑b.length:Int) (2:Nat)) ([List.replicate (64:Nat) (0:Int)].getD (0:Nat) (List.replicate (64:Nat) (0:Int))))).getD (0:Nat) (List.replicate (64:Nat) (0:Int))))).getD (0:Nat) (List.replicate (64:Nat) (0:Int))))).set (0:Nat) ((((([List.replicate (64:Nat) (0:Int)].set (0:Nat) (bH (0:Nat) (2:Nat) (layB (↑b.length:Int) (2:Nat)) ([List.replicate (64:Nat) (0:Int)].getD (0:Nat) (List.replicate (64:Nat) (0:Int))))).set (0:Nat) (bH (2:Nat) (4:Nat) (layB n (4:Nat)) (([List.replicate (64:Nat) (0:Int)].set (0:Nat) (bH (0:Nat) (2:Nat) (layB (↑b.length:Int) (2:Nat)) ([List.replicate (64:Nat) (0:Int)].getD (0:Nat) (List.replicate (64:Nat) (0:Int))))).getD (0:Nat) (List.replicate (64:Nat) (0:Int))))).set (0:Nat) (bH (6:Nat) (4:Nat) (layB v3 (4:Nat)) ((([List.replicate (64:Nat) (0:Int)].set (0:Nat) (bH (0:Nat) (2:Nat) (layB (↑b.length:Int) (2:Nat)) ([List.replicate (64:Nat) (0:Int)].getD (0:Nat) (List.replicate (64:Nat) (0:Int))))).set (0:Nat) (bH (2:Nat) (4:Nat) (layB n (4:Nat)) (([List.replicate (64:Nat) (0:Int)].set (0:Nat) (bH (0:Nat) (2:Nat) (layB (↑b.length:Int) (2:Nat)) ([List.replicate (64:Nat) (0:Int)].getD (0:Nat) (List.replicate (64:Nat) (0:Int))))).getD (0:Nat) (List.replicate (64:Nat) (0:Int))))).getD (0:Nat) (List.replicate (64:Nat) (0:Int))))).getD (0:Nat) (List.replicate (64:Nat) (0:Int))).set (10:Nat) v5)).set (0:Nat) (((((([List.replicate (64:Nat) (0:Int)].set (0:Nat) (bH (0:Nat) (2:Nat) (layB (↑b.length:Int) (2:Nat)) ([List.replicate (64:Nat) (0:Int)].getD (0:Nat) (List.replicate (64:Nat) (0:Int))))).set (0:Nat) (bH (2:Nat) (4:Nat) (layB n (4:Nat)) (([List.replicate (64:Nat) (0:Int)].set (0:Nat) (bH (0:Nat) (2:Nat) (layB (↑b.length:Int) (2:Nat)) ([List.replicate (64:Nat) (0:Int)].getD (0:Nat) (List.replicate (64:Nat) (0:Int))))).getD (0:Nat) (List.replicate (64:Nat) (0:Int))))).set (0:Nat) (bH (6:Nat) (4:Nat) (layB v3 (4:Nat)) ((([List.replicate (64:Nat) (0:Int)].set (0:Nat) (bH (0:Nat) (2:Nat) (layB (↑b.length:Int) (2:Nat)) ([List.replicate (64:Nat) (0:Int)].getD (0:Nat) (List.replicate (64:Nat) (0:Int))))).set (0:Nat) (bH (2:Nat) (4:Nat) (layB n (4:Nat)) (([List.replicate (64:Nat) (0:Int)].set (0:Nat) (bH (0:Nat) (2:Nat) (layB (↑b.length:Int) (2:Nat)) ([List.replicate (64:Nat) (0:Int)].getD (0:Nat) (List.replicate (64:Nat) (0:Int))))).getD (0:Nat) (List.replicate (64:Nat) (0:Int))))).getD (0:Nat) (List.replicate (64:Nat) (0:Int))))).set (0:Nat) ((((([List.replicate (64:Nat) (0:Int)].set (0:Nat) (bH (0:Nat) (2:Nat) (layB (↑b.length:Int) (2:Nat)) ([List.replicate (64:Nat) (0:Int)].getD (0:Nat) (List.replicate (64:Nat) (0:Int))))).set (0:Nat) (bH (2:Nat) (4:Nat) (layB n (4:Nat)) (([List.replicate (64:Nat) (0:Int)].set (0:Nat) (bH (0:Nat) (2:Nat) (layB (↑b.length:Int) (2:Nat)) ([List.replicate (64:Nat) (0:Int)].getD (0:Nat) (List.replicate (64:Nat) (0:Int))))).getD (0:Nat) (List.replicate (64:Nat) (0:Int))))).set (0:Nat) (bH (6:Nat) (4:Nat) (layB v3 (4:Nat)) ((([List.replicate (64:Nat) (0:Int)].set (0:Nat) (bH (0:Nat) (2:Nat) (layB (↑b.length:Int) (2:Nat)) ([List.replicate (64:Nat) (0:Int)].getD (0:Nat) (List.replicate (64:Nat) (0:Int))))).set (0:Nat) (bH (2:Nat) (4:Nat) (layB n (4:Nat)) (([List.replicate (64:Nat) (0:Int)].set (0:Nat) (bH (0:Nat) (2:Nat) (layB (↑b.length:Int) (2:Nat)) ([List.replicate (64:Nat) (0:Int)].getD (0:Nat) (List.replicate (64:Nat) (0:Int))))).getD (0:Nat) (List.replicate (64:Nat) (0:Int))))).getD (0:Nat) (List.replicate (64:Nat) (0:Int))))).getD (0:Nat) (List.replicate (64:Nat) (0:Int))).set (10:Nat) v5)).getD (0:Nat) (List.replicate (64:Nat) (0:Int))).set (11:Nat) (197:Int))).length)<|
 aj ((0:Nat)<(1:Nat))<|
 aj ((0:Nat)<([List.replicate (64:Nat) (0:Int)].set (0:Nat) (((((([List.replicate (64:Nat) (0:Int)].set (0:Nat) (bH (0:Nat) (2:Nat) (layB (↑b.length:Int) (2:Nat)) ([List.replicate (64:Nat) (0:Int)].getD (0:Nat) (List.replicate (64:Nat) (0:Int))))).set (0:Nat) (bH (2:Nat) (4:Nat) (layB n (4:Nat)) (([List.replicate (64:Nat) (0:Int)].set (0:Nat) (bH (0:Nat) (2:Nat) (layB (↑b.length:Int) (2:Nat)) ([List.replicate (64:Nat) (0:Int)].getD (0:Nat) (List.replicate (64:Nat) (0:Int))))).getD (0:Nat) (List.replicate (64:Nat) (0:Int))))).set (0:Nat) (bH (6:Nat) (4:Nat) (layB v3 (4:Nat)) ((([List.replicate (64:Nat) (0:Int)].set (0:Nat) (bH (0:Nat) (2:Nat) (layB (↑b.length:Int) (2:Nat)) ([List.replicate (64:Nat) (0:Int)].getD (0:Nat) (List.replicate (64:Nat) (0:Int))))).set (0:Nat) (bH (2:Nat) (4:Nat) (layB n (4:Nat)) (([List.replicate (64:Nat) (0:Int)].set (0:Nat) (bH (0:Nat) (2:Nat) (layB (↑b.length:Int) (2:Nat)) ([List.replicate (64:Nat) (0:Int)].getD (0:Nat) (List.replicate (64:Nat) (0:Int))))).getD (0:Nat) (List.replicate (64:Nat) (0:Int))))).getD (0:Nat) (List.replicate (64:Nat) (0:Int))))).set (0:Nat) ((((([List.replicate (64:Nat) (0:Int)].set (0:Nat) (bH (0:Nat) (2:Nat) (layB (↑b.length:Int) (2:Nat)) ([List.replicate (64:Nat) (0:Int)].getD (0:Nat) (List.replicate (64:Nat) (0:Int))))).set (0:Nat) (bH (2:Nat) (4:Nat) (layB n (4:Nat)) (([List.replicate (64:Nat) (0:Int)].set (0:Nat) (bH (0:Nat) (2:Nat) (layB (↑b.length:Int) (2:Nat)) ([List.replicate (64:Nat) (0:Int)].getD (0:Nat) (List.replicate (64:Nat) (0:Int))))).getD (0:Nat) (List.replicate (64:Nat) (0:Int))))).set (0:Nat) (bH (6:Nat) (4:Nat) (layB v3 (4:Nat)) ((([List.replicate (64:Nat) (0:Int)].set (0:Nat) (bH (0:Nat) (2:Nat) (layB (↑b.length:Int) (2:Nat)) ([List.replicate (64:Nat) (0:Int)].getD (0:Nat) (List.replicate (64:Nat) (0:Int))))).set (0:Nat) (bH (2:Nat) (4:Nat) (layB n (4:Nat)) (([List.replicate (64:Nat) (0:Int)].set (0:Nat) (bH (0:Nat) (2:Nat) (layB (↑b.length:Int) (2:Nat)) ([List.replicate (64:Nat) (0:Int)].getD (0:Nat) (List.replicate (64:Nat) (0:Int))))).getD (0:Nat) (List.replicate (64:Nat) (0:Int))))).getD (0:Nat) (List.replicate (64:Nat) (0:Int))))).getD (0:Nat) (List.replicate (64:Nat) (0:Int))).set (10:Nat) v5)).set (0:Nat) (((((([List.replicate (64:Nat) (0:Int)].set (0:Nat) (bH (0:Nat) (2:Nat) (layB (↑b.length:Int) (2:Nat)) ([List.replicate (64:Nat) (0:Int)].getD (0:Nat) (List.replicate (64:Nat) (0:Int))))).set (0:Nat) (bH (2:Nat) (4:Nat) (layB n (4:Nat)) (([List.replicate (64:Nat) (0:Int)].set (0:Nat) (bH (0:Nat) (2:Nat) (layB (↑b.length:Int) (2:Nat)) ([List.replicate (64:Nat) (0:Int)].getD (0:Nat) (List.replicate (64:Nat) (0:Int))))).getD (0:Nat) (List.replicate (64:Nat) (0:Int))))).set (0:Nat) (bH (6:Nat) (4:Nat) (layB v3 (4:Nat)) ((([List.replicate (64:Nat) (0:Int)].set (0:Nat) (bH (0:Nat) (2:Nat) (layB (↑b.length:Int) (2:Nat)) ([List.replicate (64:Nat) (0:Int)].getD (0:Nat) (List.replicate (64:Nat) (0:Int))))).set (0:Nat) (bH (2:Nat) (4:Nat) (layB n (4:Nat)) (([List.replicate (64:Nat) (0:Int)].set (0:Nat) (bH (0:Nat) (2:Nat) (layB (↑b.length:Int) (2:Nat)) ([List.replicate (64:Nat) (0:Int)].getD (0:Nat) (List.replicate (64:Nat) (0:Int))))).getD (0:Nat) (List.replicate (64:Nat) (0:Int))))).getD (0:Nat) (List.replicate (64:Nat) (0:Int))))).set (0:Nat) ((((([List.replicate (64:Nat) (0:Int)].set (0:Nat) (bH (0:Nat) (2:Nat) (layB (↑b.length:Int) (2:Nat)) ([List.replicate (64:Nat) (0:Int)].getD (0:Nat) (List.replicate (64:Nat) (0:Int))))).set (0:Nat) (bH (2:Nat) (4:Nat) (layB n (4:Nat)) (([List.replicate (64:Nat) (0:Int)].set (0:Nat) (bH (0:Nat) (2:Nat) (layB (↑b.length:Int) (2:Nat)) ([List.replicate (64:Nat) (0:Int)].getD (0:Nat) (List.replicate (64:Nat) (0:Int))))).getD (0:Nat) (List.replicate (64:Nat) (0:Int))))).set (0:Nat) (bH (6:Nat) (4:Nat) (layB v3 (4:Nat)) ((([List.replicate (64:Nat) (0:Int)].set (0:Nat) (bH (0:Nat) (2:Nat) (layB (↑b.length:Int) (2:Nat)) ([List.replicate (64:Nat) (0:Int)].getD (0:Nat) (List.replicate (64:Nat) (0:Int))))).set (0:Nat) (bH (2:Nat) (4:Nat) (layB n (4:Nat)) (([List.replicate (64:Nat) (0:Int)].set (0:Nat) (bH (0:Nat) (2:Nat) (layB (↑b.length:Int) (2:Nat)) ([List.replicate (64:Nat) (0:Int)].getD (0:Nat) (List.replicate (64:Nat) (0:Int))))).getD (0:Nat) (List.replicate (64:Nat) (0:Int))))).getD (0:Nat) (List.replicate (64:Nat) (0:Int))))).getD (0:Nat) (List.replicate (64:Nat) (0:Int))).set (10:Nat) v5)).getD (0:Nat) (List.replicate (64:Nat) (0:Int))).set (11:Nat) (197:Int))).getD (0:Nat) (List.replicate (64:Nat) (0:Int)))).length)<|
 some (([List.replicate (64:Nat) (0:Int)].set (0:Nat) (((((([List.replicate (64:Nat) (0:Int)].set (0:Nat) (bH (0:Nat) (2:Nat) (layB (↑b.length:Int) (2:Nat)) ([List.replicate (64:Nat) (0:Int)].getD (0:Nat) (List.replicate (64:Nat) (0:Int))))).set (0:Nat) (bH (2:Nat) (4:Nat) (layB n (4:Nat)) (([List.replicate (64:Nat) (0:Int)].set (0:Nat) (bH (0:Nat) (2:Nat) (layB (↑b.length:Int) (2:Nat)) ([List.replicate (64:Nat) (0:Int)].getD (0:Nat) (List.replicate (64:Nat) (0:Int))))).getD (0:Nat) (List.replicate (64:Nat) (0:Int))))).set (0:Nat) (bH (6:Nat) (4:Nat) (layB v3 (4:Nat)) ((([List.replicate (64:Nat) (0:Int)].set (0:Nat) (bH (0:Nat) (2:Nat) (layB (↑b.length:Int) (2:Nat)) ([List.replicate (64:Nat) (0:Int)].getD (0:Nat) (List.replicate (64:Nat) (0:Int))))).set (0:Nat) (bH (2:Nat) (4:Nat) (layB n (4:Nat)) (([List.replicate (64:Nat) (0:Int)].set (0:Nat) (bH (0:Nat) (2:Nat) (layB (↑b.length:Int) (2:Nat)) ([List.replicate (64:Nat) (0:Int)].getD (0:Nat) (List.replicate (64:Nat) (0:Int))))).getD (0:Nat) (List.replicate (64:Nat) (0:Int))))).getD (0:Nat) (List.replicate (64:Nat) (0:Int))))).set (0:Nat) ((((([List.replicate (64:Nat) (0:Int)].set (0:Nat) (bH (0:Nat) (2:Nat) (layB (↑b.length:Int) (2:Nat)) ([List.replicate (64:Nat) (0:Int)].getD (0:Nat) (List.replicate (64:Nat) (0:Int))))).set (0:Nat) (bH (2:Nat) (4:Nat) (layB n (4:Nat)) (([List.replicate (64:Nat) (0:Int)].set (0:Nat) (bH (0:Nat) (2:Nat) (layB (↑b.length:Int) (2:Nat)) ([List.replicate (64:Nat) (0:Int)].getD (0:Nat) (List.replicate (64:Nat) (0:Int))))).getD (0:Nat) (List.replicate (64:Nat) (0:Int))))).set (0:Nat) (bH (6:Nat) (4:Nat) (layB v3 (4:Nat)) ((([List.replicate (64:Nat) (0:Int)].set (0:Nat) (bH (0:Nat) (2:Nat) (layB (↑b.length:Int) (2:Nat)) ([List.replicate (64:Nat) (0:Int)].getD (0:Nat) (List.replicate (64:Nat) (0:Int))))).set (0:Nat) (bH (2:Nat) (4:Nat) (layB n (4:Nat)) (([List.replicate (64:Nat) (0:Int)].set (0:Nat) (bH (0:Nat) (2:Nat) (layB (↑b.length:Int) (2:Nat)) ([List.replicate (64:Nat) (0:Int)].getD (0:Nat) (List.replicate (64:Nat) (0:Int))))).getD (0:Nat) (List.replicate (64:Nat) (0:Int))))).getD (0:Nat) (List.replicate (64:Nat) (0:Int))))).getD (0:Nat) (List.replicate (64:Nat) (0:Int))).set (10:Nat) v5)).set (0:Nat) (((((([List.replicate (64:Nat) (0:Int)].set (0:Nat) (bH (0:Nat) (2:Nat) (layB (↑b.length:Int) (2:Nat)) ([List.replicate (64:Nat) (0:Int)].getD (0:Nat) (List.replicate (64:Nat) (0:Int))))).set (0:Nat) (bH (2:Nat) (4:Nat) (layB n (4:Nat)) (([List.replicate (64:Nat) (0:Int)].set (0:Nat) (bH (0:Nat) (2:Nat) (layB (↑b.length:Int) (2:Nat)) ([List.replicate (64:Nat) (0:Int)].getD (0:Nat) (List.replicate (64:Nat) (0:Int))))).getD (0:Nat) (List.replicate (64:Nat) (0:Int))))).set (0:Nat) (bH (6:Nat) (4:Nat) (layB v3 (4:Nat)) ((([List.replicate (64:Nat) (0:Int)].set (0:Nat) (bH (0:Nat) (2:Nat) (layB (↑b.length:Int) (2:Nat)) ([List.replicate (64:Nat) (0:Int)].getD (0:Nat) (List.replicate (64:Nat) (0:Int))))).set (0:Nat) (bH (2:Nat) (4:Nat) (layB n (4:Nat)) (([List.replicate (64:Nat) (0:Int)].set (0:Nat) (bH (0:Nat) (2:Nat) (layB (↑b.length:Int) (2:Nat)) ([List.replicate (64:Nat) (0:Int)].getD (0:Nat) (List.replicate (64:Nat) (0:Int))))).getD (0:Nat) (List.replicate (64:Nat) (0:Int))))).getD (0:Nat) (List.replicate (64:Nat) (0:Int))))).set (0:Nat) ((((([List.replicate (64:Nat) (0:Int)].set (0:Nat) (bH (0:Nat) (2:Nat) (layB (↑b.length:Int) (2:Nat)) ([List.replicate (64:Nat) (0:Int)].getD (0:Nat) (List.replicate (64:Nat) (0:Int))))).set (0:Nat) (bH (2:Nat) (4:Nat) (layB n (4:Nat)) (([List.replicate (64:Nat) (0:Int)].set (0:Nat) (bH (0:Nat) (2:Nat) (layB (↑b.length:Int) (2:Nat)) ([List.replicate (64:Nat) (0:Int)].getD (0:Nat) (List.replicate (64:Nat) (0:Int))))).getD (0:Nat) (List.replicate (64:Nat) (0:Int))))).set (0:Nat) (bH (6:Nat) (4:Nat) (layB v3 (4:Nat)) ((([List.replicate (64:Nat) (0:Int)].set (0:Nat) (bH (0:Nat) (2:Nat) (layB (↑b.length:Int) (2:Nat)) ([List.replicate (64:Nat) (0:Int)].getD (0:Nat) (List.replicate (64:Nat) (0:Int))))).set (0:Nat) (bH (2:Nat) (4:Nat) (layB n (4:Nat)) (([List.replicate (64:Nat) (0:Int)].set (0:Nat) (bH (0:Nat) (2:Nat) (layB (↑b.length:Int) (2:Nat)) ([List.replicate (64:Nat) (0:Int)].getD (0:Nat) (List.replicate (64:Nat) (0:Int))))).getD (0:Nat) (List.replicate (64:Nat) (0:Int))))).getD (0:Nat) (List.replicate (64:Nat) (0:Int))))).getD (0:Nat) (List.replicate (64:Nat) (0:Int))).set (10:Nat) v5)).getD (0:Nat) (List.replicate (64:Nat) (0:Int))).set (11:Nat) (197:Int))).getD (0:Nat) (List.replicate (64:Nat) (0:Int)))).getD (0:Nat) (List.replicate (64:Nat) (0:Int)),())
abbrev UW:Type:=Int×Int×Int×Nat×Int×Int×Int×(List Int)×Int×Int×Int×Bool×Int×Int×Bool×Int×(List (List Int))×(List (Int×List Int))×(List (List Int))×(List (List Int))×Unit
abbrev zcN:Type:=(Int×Nat×Int×Int×Int×Int×Int×Bool×Int×Int×Bool×Int×(List (List Int))×(List (Int×List Int))×(List (List Int))×(List (List Int))×(List Int)×Unit)⊕(Int×(List Int)×Bool×Int×Int×Int×Bool×Int×Int×Bool×Int×(List (List Int))×(List (Int×List Int))×(List (List Int))×Unit)
def Kr(region at' kind:Int)(h:Nat)(n id k:Int)(b:List Int)(eu eI eF:Int)(dX:Bool)(dz dA:Int)(dW:Bool)(dB:Int)(o2:List (List Int))(o3:List (Int×List Int))(o4 h':List (List Int)):Option (UW⊕zcN):=
 ao (sP n) fun dR=>
 ay (decide (k<dR.1)) (
 ao (qm (((o2,o3,dz,dA,dW,dB),eu,eI,eF,o4,dX))) fun av=>
 ab (IntKind.i64.wrap (region*av.1)) fun ic=>
 ab (IntKind.i64.wrap (ic+at')) fun gr=>
 ab (IntKind.i64.wrap (gr+k)) fun v17=>
 ao (Fu ((o2,o3,dz,dA,dW,dB)) v17) fun cA=>
 aj ((0:Nat)<(1:Nat))<|
 ab (cA.2.1 != (0:Int)) fun iW=>
 ay iW (
 some (.inr (.inr ((0:Int),[],false,eu,eI,eF,dX,dz,dA,dW,dB,o2,o3,o4,())))) (
 aj ((0:Int)<=(0:Int)/\(0:Int)<=(64:Int)/\(64:Int)<=(64:Int))<|
 aj ((0:Nat)<([List.replicate (64:Nat) (0:Int)].set (0:Nat) cA.1).length)<|
 aj (room (1:Nat) (b.length+(cE (0:Nat) (64:Nat) (([List.replicate (64:Nat) (0:Int)].set (0:Nat) cA.1).getD (0:Nat) (List.replicate (64:Nat) (0:Int)))).length))<|
 ab (IntKind.i64.wrap (k+(1:Int))) fun v20=>
 some (.inl (region,at',kind,h,n,id,v20,b++cE (0:Nat) (64:Nat) (([List.replicate (64:Nat) (0:Int)].set (0:Nat) cA.1).getD (0:Nat) (List.replicate (64:Nat) (0:Int))),eu,eI,eF,dX,dz,dA,dW,dB,o2,o3,o4,h',())))) (
 some (.inr (.inl (kind,h,n,id,eu,eI,eF,dX,dz,dA,dW,dB,o2,o3,o4,h',b,()))))
def UX(s:UW):Option zcN:=ct (fun s:UW=>Kr s.1 s.2.1 s.2.2.1 s.2.2.2.1 s.2.2.2.2.1 s.2.2.2.2.2.1 (q4 s).2.2.1 (q4 s).2.2.2.1 (q8 s).1 (q8 s).2.1 (q8 s).2.2.1 (q8 s).2.2.2.1 (ax s).1 (ax s).2.1 (ax s).2.2.1 (ax s).2.2.2.1 (aA s).1 (aA s).2.1 (aA s).2.2.1 (aA s).2.2.2.1) s
def Fw(region:Int)(at':Int)(kind:Int)(eu:Int)(eI:Int)(eF:Int)(dX:Bool)(dz:Int)(dA:Int)(dW:Bool)(dB:Int)(o2:List (List Int))(o3:List (Int×List Int))(o4:List (List Int)):Option (Int×(List Int)×Bool×Int×Int×Int×Bool×Int×Int×Bool×Int×(List (List Int))×(List (Int×List Int))×(List (List Int))×Unit):=
 ao (qm (((o2,o3,dz,dA,dW,dB),eu,eI,eF,o4,dX))) fun y0=>
 ay (decide (at'>=y0.1)) (
 some ((0:Int),[],false,eu,eI,eF,dX,dz,dA,dW,dB,o2,o3,o4,())) (
 ao (qm (((o2,o3,dz,dA,dW,dB),eu,eI,eF,o4,dX))) fun y1=>
 ab (IntKind.i64.wrap (region*y1.1)) fun v2=>
 ab (IntKind.i64.wrap (v2+at')) fun v3=>
 ao (Fu ((o2,o3,dz,dA,dW,dB)) (v3)) fun y4=>
 aj ((0:Nat)<(1:Nat))<|
 aj ((0:Int)<=(0:Int)/\(0:Int)<=(2:Int)/\(2:Int)<=(64:Int))<|
 ao (aj ((0:Nat)<([List.replicate (64:Nat) (0:Int)].set (0:Nat) y4.1).length) (zg (cE (0:Nat) (2:Nat) (([List.replicate (64:Nat) (0:Int)].set (0:Nat) y4.1).getD (0:Nat) (List.replicate (64:Nat) (0:Int)))))) fun y5=>
 aj ((0:Int)<=(2:Int)/\(2:Int)<=(6:Int)/\(6:Int)<=(64:Int))<|
 ao (aj ((0:Nat)<([List.replicate (64:Nat) (0:Int)].set (0:Nat) y4.1).length) (zg (cE (2:Nat) (6:Nat) (([List.replicate (64:Nat) (0:Int)].set (0:Nat) y4.1).getD (0:Nat) (List.replicate (64:Nat) (0:Int)))))) fun y6=>
 ab (y4.2.1 != (0:Int)) fun v7=>
 aj ((!v7)=true->(!v7)=true)<|
 aj (v7=false->(!v7)=true)<|
 ab (v7||decide (y5.1>(16384:Int))) fun v8=>
 aj ((!v8)=true->(!v8)=true)<|
 bU (!v8) (sP (y5.1)) ((0:Int),()) fun y9=>
 aj ((!v8)=true->(!v8)=true)<|
 aj ((!v8)=true->(!v8)=true)<|
 ab (IntKind.i64.wrap (at'+y9.1)) fun v10=>
 aj ((!v8)=true->(!v8)=true)<|
 bU (!v8) (qm (((o2,o3,dz,dA,dW,dB),eu,eI,eF,o4,dX))) ((0:Int),()) fun bY=>
 aj ((!v8)=true->(!v8)=true)<|
 aj ((!v8)=true->(!v8)=true)<|
 aj (v8=false->(!v8)=true)<|
 ab (v8||decide (v10>bY.1)) fun v12=>
 ay (v12) (
 some ((0:Int),[],false,eu,eI,eF,dX,dz,dA,dW,dB,o2,o3,o4,())) (
 ao (UX (region,at',kind,(0:Nat),y5.1,y6.1,(1:Int),[],eu,eI,eF,dX,dz,dA,dW,dB,o2,o3,o4,[List.replicate (64:Nat) (0:Int)].set (0:Nat) y4.1,())) fun y21=>
 cC y21 (fun t22=>
 aj ((0:Int)<=(0:Int)/\(0:Int)<=t22.2.2.1/\t22.2.2.1<=(↑t22.2.2.2.2.2.2.2.2.2.2.2.2.2.2.2.2.1.length:Int))<|
 aj (t22.2.1<t22.2.2.2.2.2.2.2.2.2.2.2.2.2.2.2.1.length)<|
 ao (aj ((0:Nat)+(t22.2.2.1.toNat-(0:Nat))<=t22.2.2.2.2.2.2.2.2.2.2.2.2.2.2.2.2.1.length) (Fv (t22.1) (t22.2.2.2.1) (cE (0:Nat) ((0:Nat)+(t22.2.2.1.toNat-(0:Nat))) t22.2.2.2.2.2.2.2.2.2.2.2.2.2.2.2.2.1))) fun ou=>
 ab (t22.2.2.2.2.2.2.2.2.2.2.2.2.2.2.2.1.getD t22.2.1 (List.replicate (64:Nat) (0:Int))==ou.1) fun v25=>
 aj ((0:Nat)+(t22.2.2.1.toNat-(0:Nat))<=t22.2.2.2.2.2.2.2.2.2.2.2.2.2.2.2.2.1.length)<|
 some (t22.2.2.2.1,cE (0:Nat) ((0:Nat)+(t22.2.2.1.toNat-(0:Nat))) t22.2.2.2.2.2.2.2.2.2.2.2.2.2.2.2.2.1,v25,t22.2.2.2.2.1,t22.2.2.2.2.2.1,t22.2.2.2.2.2.2.1,t22.2.2.2.2.2.2.2.1,t22.2.2.2.2.2.2.2.2.1,t22.2.2.2.2.2.2.2.2.2.1,t22.2.2.2.2.2.2.2.2.2.2.1,t22.2.2.2.2.2.2.2.2.2.2.2.1,t22.2.2.2.2.2.2.2.2.2.2.2.2.1,t22.2.2.2.2.2.2.2.2.2.2.2.2.2.1,t22.2.2.2.2.2.2.2.2.2.2.2.2.2.2.1,())) (fun r23=>
 some (r23))))
abbrev UY:Type:=Int×Int×Int×Int×Bool×Int×Int×Bool×Int×(List (List Int))×(List (List Int))×(List (Int×List Int))×Unit
abbrev zcO:Type:=(Int×Int×Int×Bool×Int×Int×Bool×Int×(List (List Int))×(List (List Int))×(List (Int×List Int))×Unit)⊕(Bool×Int×Int×Int×Bool×Int×Int×Bool×Int×(List (List Int))×(List (List Int))×(List (Int×List Int))×Unit)
def Ks(t10:Int)(eu:Int)(eI:Int)(eF:Int)(dX:Bool)(dz:Int)(dA:Int)(dW:Bool)(dB:Int)(o2:List (List Int))(pC:List (List Int))(ry:List (Int×List Int)):Option (UY⊕zcO):=
 ay (decide (t10<(2:Int))) (
 ao (Fw (t10) ((0:Int)) ((1:Int)) (eu) (eI) (eF) (dX) (dz) (dA) (dW) (dB) (o2) (ry) (pC)) fun y0=>
 aj (y0.2.2.1=true->y0.2.2.1=true)<|
 aj (y0.2.2.1=true->y0.2.2.1=true)<|
 ab ((↑y0.2.1.length:Int)==(0:Int)) fun v1=>
 aj (y0.2.2.1=true->y0.2.2.1=true)<|
 ab (y0.2.2.1&&v1) fun v2=>
 aj (v2=true->v2=true)<|
 aj (v2=true->v2=true)<|
 aj (v2=true->v2=true)<|
 aj (v2=true->v2=true)<|
 aj (v2=true->v2=true)<|
 aj (v2=true->v2=true)<|
 ab (v2&&decide (y0.1>y0.2.2.2.2.1)) fun v3=>
 ay (v3) (
 ab (IntKind.i64.wrap (t10+(1:Int))) fun v4=>
 some (.inl (v4,t10,y0.1,y0.2.2.2.2.2.1,y0.2.2.2.2.2.2.1,y0.2.2.2.2.2.2.2.1,y0.2.2.2.2.2.2.2.2.1,y0.2.2.2.2.2.2.2.2.2.1,y0.2.2.2.2.2.2.2.2.2.2.1,y0.2.2.2.2.2.2.2.2.2.2.2.1,y0.2.2.2.2.2.2.2.2.2.2.2.2.2.1,y0.2.2.2.2.2.2.2.2.2.2.2.2.1,()))) (
 ab (IntKind.i64.wrap (t10+(1:Int))) fun v5=>
 some (.inl (v5,y0.2.2.2.1,y0.2.2.2.2.1,y0.2.2.2.2.2.1,y0.2.2.2.2.2.2.1,y0.2.2.2.2.2.2.2.1,y0.2.2.2.2.2.2.2.2.1,y0.2.2.2.2.2.2.2.2.2.1,y0.2.2.2.2.2.2.2.2.2.2.1,y0.2.2.2.2.2.2.2.2.2.2.2.1,y0.2.2.2.2.2.2.2.2.2.2.2.2.2.1,y0.2.2.2.2.2.2.2.2.2.2.2.2.1,())))) (
 some (.inr (.inl (eu,eI,eF,dX,dz,dA,dW,dB,o2,pC,ry,()))))
def UZ(s:UY):Option zcO:=ct (fun s:UY=>Ks s.1 s.2.1 s.2.2.1 s.2.2.2.1 s.2.2.2.2.1 s.2.2.2.2.2.1 (q4 s).2.2.1 (q4 s).2.2.2.1 (q8 s).1 (q8 s).2.1 (q8 s).2.2.1 (q8 s).2.2.2.1) s
abbrev U0:Type:=Int×Int×Int×Bool×Int×Int×Bool×Int×(List (List Int))×(List (List Int))×(List (Int×List Int))×Unit
abbrev zcP:Type:=(Int×Int×Int×Bool×Int×Int×Bool×Int×(List (List Int))×(List (List Int))×(List (Int×List Int))×Unit)⊕(Bool×Int×Int×Int×Bool×Int×Int×Bool×Int×(List (List Int))×(List (List Int))×(List (Int×List Int))×Unit)
def xj(eu:Int)(eI:Int)(eF:Int)(dX:Bool)(dz:Int)(dA:Int)(dW:Bool)(dB:Int)(o2:List (List Int))(pC:List (List Int))(ry:List (Int×List Int)):Option (U0⊕zcP):=
 ay (decide (eI>(0:Int))) (
 ao (Fw (eu) (eF) ((2:Int)) (eu) (eI) (eF) (dX) (dz) (dA) (dW) (dB) (o2) (ry) (pC)) fun y9=>
 aj ((!!y9.2.2.1)=true->(!!y9.2.2.1)=true)<|
 aj ((!!y9.2.2.1)=true->(!!y9.2.2.1)=true)<|
 aj ((!!y9.2.2.1)=true->(!!y9.2.2.1)=true)<|
 aj ((!!y9.2.2.1)=true->(!!y9.2.2.1)=true)<|
 aj ((!!y9.2.2.1)=true->(!!y9.2.2.1)=true)<|
 aj ((!!y9.2.2.1)=true->(!!y9.2.2.1)=true)<|
 ab (y9.1 != (↑y9.2.2.2.2.2.2.2.2.2.2.2.2.2.1.length:Int)) fun v10=>
 aj ((!y9.2.2.1)=false->(!!y9.2.2.1)=true)<|
 ab (!y9.2.2.1||v10) fun v11=>
 ay (v11) (
 some (.inr (.inl (y9.2.2.2.1,y9.2.2.2.2.1,y9.2.2.2.2.2.1,y9.2.2.2.2.2.2.1,y9.2.2.2.2.2.2.2.1,y9.2.2.2.2.2.2.2.2.1,y9.2.2.2.2.2.2.2.2.2.1,y9.2.2.2.2.2.2.2.2.2.2.1,y9.2.2.2.2.2.2.2.2.2.2.2.1,y9.2.2.2.2.2.2.2.2.2.2.2.2.2.1,y9.2.2.2.2.2.2.2.2.2.2.2.2.1,())))) (
 aj (room (24:Nat) (y9.2.2.2.2.2.2.2.2.2.2.2.2.2.1.length+[y9.2.1].length))<|
 ao (sP ((↑y9.2.1.length:Int))) fun mR=>
 ab (IntKind.i64.wrap (y9.2.2.2.2.2.1+mR.1)) fun jt=>
 some (.inl (y9.2.2.2.1,y9.2.2.2.2.1,jt,y9.2.2.2.2.2.2.1,y9.2.2.2.2.2.2.2.1,y9.2.2.2.2.2.2.2.2.1,y9.2.2.2.2.2.2.2.2.2.1,y9.2.2.2.2.2.2.2.2.2.2.1,y9.2.2.2.2.2.2.2.2.2.2.2.1,y9.2.2.2.2.2.2.2.2.2.2.2.2.2.1++[y9.2.1],y9.2.2.2.2.2.2.2.2.2.2.2.2.1,())))) (
 some (.inr (.inl (eu,eI,eF,dX,dz,dA,dW,dB,o2,pC,ry,()))))
def BW(s:U0):Option zcP:=ct (fun s:U0=>xj s.1 s.2.1 s.2.2.1 s.2.2.2.1 s.2.2.2.2.1 s.2.2.2.2.2.1 (q4 s).2.2.1 (q4 s).2.2.2.1 (q8 s).1 (q8 s).2.1 (q8 s).2.2.1) s
def Kt(eu:Int)(eI:Int)(eF:Int)(dX:Bool)(dz:Int)(dA:Int)(dW:Bool)(dB:Int)(o2:List (List Int))(o3:List (Int×List Int))(o4:List (List Int)):Option (Bool×Int×Int×Int×Bool×Int×Int×Bool×Int×(List (List Int))×(List (List Int))×(List (Int×List Int))×Unit):=
 ao (UZ ((0:Int),eu,eI,eF,dX,dz,dA,dW,dB,o2,o4,o3,())) fun y6=>
 cC y6 (fun t7=>
 ao (BW (t7.1,t7.2.1,(1:Int),t7.2.2.2.1,t7.2.2.2.2.1,t7.2.2.2.2.2.1,t7.2.2.2.2.2.2.1,t7.2.2.2.2.2.2.2.1,t7.2.2.2.2.2.2.2.2.1,t7.2.2.2.2.2.2.2.2.2.1,t7.2.2.2.2.2.2.2.2.2.2.1,())) fun av=>
 cC av (fun t15=>
 some (decide ((↑t15.2.2.2.2.2.2.2.2.2.1.length:Int)>(0:Int)),t15.1,t15.2.1,t15.2.2.1,t15.2.2.2.1,t15.2.2.2.2.1,t15.2.2.2.2.2.1,t15.2.2.2.2.2.2.1,t15.2.2.2.2.2.2.2.1,t15.2.2.2.2.2.2.2.2.1,t15.2.2.2.2.2.2.2.2.2.1,t15.2.2.2.2.2.2.2.2.2.2.1,())) (fun r16=>
 some (r16))) (fun r8=>
 some (r8))
def Fx(fM fN:Int)(fm:Bool)(fX:Int)(o1:List (List Int))(o2:List (Int×List Int)):Option (Int×Int×Int×Bool×Int×(List (List Int))×(List (Int×List Int))×Unit):=
 ab (IntKind.i64.wrap (fX+(1:Int))) fun v0=>
 ab (fM==(0:Int)) fun v1=>
 ay v1 (
 ab (fN==(0:Int)) fun v2=>
 ab (IntKind.i64.wrap (fM-(1:Int))) fun v3=>
 ab (IntKind.i64.wrap (fN-(1:Int))) fun v4=>
 some ((9:Int),if v3>(-1:Int) then v3 else (-1:Int),if v4>(-1:Int) then v4 else (-1:Int),true,v0,o1,o2,())) (
 ab (fN==(0:Int)) fun v5=>
 ab (IntKind.i64.wrap (fM-(1:Int))) fun v6=>
 ab (IntKind.i64.wrap (fN-(1:Int))) fun v7=>
 ay fm (
 some ((9:Int),if v6>(-1:Int) then v6 else (-1:Int),if v7>(-1:Int) then v7 else (-1:Int),fm,v0,o1,o2,())) (
 ay v5 (
 some ((10:Int),if v6>(-1:Int) then v6 else (-1:Int),if v7>(-1:Int) then v7 else (-1:Int),fm,v0,o1,o2,())) (
 some ((0:Int),if v6>(-1:Int) then v6 else (-1:Int),if v7>(-1:Int) then v7 else (-1:Int),fm,v0,o1,o2,()))))
def BX(at':Int)(s':List Int)(fM fN:Int)(fm:Bool)(fX:Int)(o1:List (List Int))(o2:List (Int×List Int)):Option (Int×Int×Int×Bool×Int×(List (List Int))×(List (Int×List Int))×Unit):=
 ay fm (
 some ((9:Int),fM,fN,fm,fX,o1,o2,())) (
 ck (!decide (at'<(0:Int)))<|
 ck (!decide (at'<(0:Int)))<|
 ck (!decide (at'<(0:Int)))<|
 ck (!decide (at'<(0:Int)))<|
 ck (!decide (at'<(0:Int)))<|
 ck (!decide (at'<(0:Int)))<|
 aj (decide (at'<(0:Int))=false->(!decide (at'<(0:Int)))=true)<|
 ab (decide (at'<(0:Int))||decide (at'>=(↑o1.length:Int))) fun v0=>
 ay v0 (
 some ((3:Int),fM,fN,fm,fX,o1,o2,())) (
 ao (Fx fM fN fm fX o1 o2) fun y1=>
 ab (y1.1 != (10:Int)) fun v2=>
 ay v2 (
 aj ((0:Nat) < [s'].length)<|
 aj (room (72:Nat) (y1.2.2.2.2.2.2.1.length+[(at',[s'].getD (0:Nat) (List.replicate (64:Nat) (0:Int)))].length))<|
 some (y1.1,y1.2.1,y1.2.2.1,y1.2.2.2.1,y1.2.2.2.2.1,y1.2.2.2.2.2.1,(q4 y1).2.2.1++[(at',[s'].getD (0:Nat) (List.replicate (64:Nat) (0:Int)))],())) (
 some (y1.1,y1.2.1,y1.2.2.1,y1.2.2.2.1,y1.2.2.2.2.1,y1.2.2.2.2.2.1,(q4 y1).2.2.1,()))))
abbrev U1:Type:=Int×Int×Int×Int×Bool×Int×(List (List Int))×(List (Int×List Int))×Unit
abbrev zcQ:Type:=(Int×Int×Bool×Int×(List (List Int))×(List (Int×List Int))×Unit)⊕(Int×Int×Int×Bool×Int×(List (List Int))×(List (Int×List Int))×Unit)
def Ku(t19 t20 fM fN:Int)(fm:Bool)(fX:Int)(o1:List (List Int))(x:List (Int×List Int)):Option (U1⊕zcQ):=
 ay (decide (t20<t19)) (
 aj ((0:Int)<=t20/\t20<(↑x.length:Int))<|
 aj (t20.toNat<x.length)<|
 aj ((0:Nat)<(1:Nat))<|
 aj ((0:Nat)<([((0:Int),List.replicate (64:Nat) (0:Int))].set (0:Nat) (x.getD t20.toNat ((0:Int),List.replicate (64:Nat) (0:Int)))).length)<|
 aj ((0:Nat)<([((0:Int),List.replicate (64:Nat) (0:Int))].set (0:Nat) (x.getD t20.toNat ((0:Int),List.replicate (64:Nat) (0:Int)))).length)<|
 aj ((0:Int)<=(([((0:Int),List.replicate (64:Nat) (0:Int))].set (0:Nat) (x.getD t20.toNat ((0:Int),List.replicate (64:Nat) (0:Int)))).getD (0:Nat) ((0:Int),List.replicate (64:Nat) (0:Int))).1/\(([((0:Int),List.replicate (64:Nat) (0:Int))].set (0:Nat) (x.getD t20.toNat ((0:Int),List.replicate (64:Nat) (0:Int)))).getD (0:Nat) ((0:Int),List.replicate (64:Nat) (0:Int))).1<(↑o1.length:Int))<|
 aj ((([((0:Int),List.replicate (64:Nat) (0:Int))].set (0:Nat) (x.getD t20.toNat ((0:Int),List.replicate (64:Nat) (0:Int)))).getD (0:Nat) ((0:Int),List.replicate (64:Nat) (0:Int))).1.toNat<o1.length)<|
 ab (IntKind.i64.wrap (t20+(1:Int))) fun v2=>
 some (.inl (t19,v2,fM,fN,fm,fX,o1.set (([((0:Int),List.replicate (64:Nat) (0:Int))].set (0:Nat) (x.getD t20.toNat ((0:Int),List.replicate (64:Nat) (0:Int)))).getD (0:Nat) ((0:Int),List.replicate (64:Nat) (0:Int))).1.toNat (([((0:Int),List.replicate (64:Nat) (0:Int))].set (0:Nat) (x.getD t20.toNat ((0:Int),List.replicate (64:Nat) (0:Int)))).getD (0:Nat) ((0:Int),List.replicate (64:Nat) (0:Int))).2,x,()))) (
 some (.inr (.inl (fM,fN,fm,fX,o1,x,()))))
def U2(s:U1):Option zcQ:=ct (fun s:U1=>Ku s.1 s.2.1 s.2.2.1 s.2.2.2.1 s.2.2.2.2.1 s.2.2.2.2.2.1 (q4 s).2.2.1 (q4 s).2.2.2.1) s
def BY(fM fN:Int)(fm:Bool)(fX:Int)(o1:List (List Int))(o2:List (Int×List Int)):Option (Int×Int×Int×Bool×Int×(List (List Int))×(List (Int×List Int))×Unit):=
 ay fm (
 some ((9:Int),fM,fN,fm,fX,o1,o2,())) (
 ao (Fx fM fN fm fX o1 o2) fun y0=>
 ab (y0.1 != (0:Int)) fun v1=>
 ay v1 (
 some (y0.1,y0.2.1,y0.2.2.1,y0.2.2.2.1,y0.2.2.2.2.1,y0.2.2.2.2.2.1,(q4 y0).2.2.1,())) (
 ao (U2 ((↑y0.2.2.2.2.2.2.1.length:Int),(0:Int),y0.2.1,y0.2.2.1,y0.2.2.2.1,y0.2.2.2.2.1,y0.2.2.2.2.2.1,(q4 y0).2.2.1,())) fun y3=>
 cC y3 (fun t4=>
 some ((0:Int),t4.1,t4.2.1,t4.2.2.1,t4.2.2.2.1,t4.2.2.2.2.1,[],())) (fun r5=>
 some r5)))
abbrev U3:Type:=Int×Int×Int×Int×Int×Bool×Int×Int×Bool×Int×(List (List Int))×(List (List Int))×(List (Int×List Int))×Unit
abbrev zcR:Type:=(Int×Int×Int×Bool×Int×Int×Bool×Int×(List (List Int))×(List (List Int))×(List (Int×List Int))×Unit)⊕(Int×Int×Int×Int×Bool×Int×Int×Bool×Int×(List (List Int))×(List (List Int))×(List (Int×List Int))×Unit)
def Kv(region k eu eI eF:Int)(dX:Bool)(dz dA:Int)(dW:Bool)(dB:Int)(o2 pC:List (List Int))(ry:List (Int×List Int)):Option (U3⊕zcR):=
 ao (qm (((o2,ry,dz,dA,dW,dB),eu,eI,eF,pC,dX))) fun y0=>
 ay (decide (k<y0.1)) (
 ao (qm (((o2,ry,dz,dA,dW,dB),eu,eI,eF,pC,dX))) fun y1=>
 ab (IntKind.i64.wrap (region*y1.1)) fun v2=>
 ab (IntKind.i64.wrap (v2+k)) fun v3=>
 ao (BX v3 (List.replicate (64:Nat) (0:Int)) dz dA dW dB o2 ry) fun y4=>
 ab (y4.1 != (0:Int)) fun v5=>
 ay v5 (
 some (.inr (.inr (y4.1,eu,eI,eF,dX,y4.2.1,y4.2.2.1,y4.2.2.2.1,y4.2.2.2.2.1,y4.2.2.2.2.2.1,pC,(q4 y4).2.2.1,())))) (
 ab (IntKind.i64.wrap (k+(1:Int))) fun v6=>
 some (.inl (region,v6,eu,eI,eF,dX,y4.2.1,y4.2.2.1,y4.2.2.2.1,y4.2.2.2.2.1,y4.2.2.2.2.2.1,pC,(q4 y4).2.2.1,())))) (
 some (.inr (.inl (eu,eI,eF,dX,dz,dA,dW,dB,o2,pC,ry,()))))
def Kw(s:U3):Option zcR:=ct (fun s:U3=>Kv s.1 s.2.1 s.2.2.1 s.2.2.2.1 s.2.2.2.2.1 s.2.2.2.2.2.1 (q4 s).2.2.1 (q4 s).2.2.2.1 (q8 s).1 (q8 s).2.1 (q8 s).2.2.1 (q8 s).2.2.2.1 (ax s).1) s
def BZ(region at' eu eI eF:Int)(dX:Bool)(dz dA:Int)(dW:Bool)(dB:Int)(o2:List (List Int))(o3:List (Int×List Int))(o4:List (List Int)):Option (Int×Int×Int×Int×Bool×Int×Int×Bool×Int×(List (List Int))×(List (List Int))×(List (Int×List Int))×Unit):=
 ao (Kw (region,at',eu,eI,eF,dX,dz,dA,dW,dB,o2,o4,o3,())) fun y7=>
 cC y7 (fun t8=>
 ao (BY t8.2.2.2.2.1 t8.2.2.2.2.2.1 (q4 t8).2.2.1 (q4 t8).2.2.2.1 (q8 t8).1 (q8 t8).2.2.1) fun fL=>
 some (fL.1,t8.1,t8.2.1,t8.2.2.1,t8.2.2.2.1,fL.2.1,fL.2.2.1,fL.2.2.2.1,fL.2.2.2.2.1,fL.2.2.2.2.2.1,(q8 t8).2.1,(q4 fL).2.2.1,())) (fun r9=>
 some r9)
def zh(e:Int)(eu:Int)(eI:Int)(eF:Int)(dX:Bool)(dz:Int)(dA:Int)(dW:Bool)(dB:Int)(o2:List (List Int))(o3:List (Int×List Int))(o4:List (List Int)):Option (Int×Int×Int×Int×Bool×Int×Int×Bool×Int×(List (List Int))×(List (Int×List Int))×(List (List Int))×Unit):=
 aj ((!dX)=true->(!dX)=true)<|
 ab (e != (0:Int)) fun v0=>
 aj (dX=false->(!dX)=true)<|
 ab (dX||v0) fun v1=>
 some (e,eu,eI,eF,v1,dz,dA,dW,dB,o2,o3,o4,())
abbrev U4:Type:=Int×Int×(List Int)×Int×Int×Int×Int×Int×Bool×Int×Int×Bool×Int×(List (List Int))×(List (List Int))×(List (Int×List Int))×Unit
abbrev zcS:Type:=(Int×Int×(List Int)×Int×Int×Int×Int×Bool×Int×Int×Bool×Int×(List (List Int))×(List (List Int))×(List (Int×List Int))×Unit)⊕(Int×Int×Int×Int×Bool×Int×Int×Bool×Int×(List (List Int))×(List (List Int))×(List (Int×List Int))×Unit)
def Kx(kind id:Int)(b:List Int)(ov k eu eI eF:Int)(dX:Bool)(dz dA:Int)(dW:Bool)(dB:Int)(o2 pC:List (List Int))(ry:List (Int×List Int)):Option (U4⊕zcS):=
 ao (sP ((↑b.length:Int))) fun y3=>
 ay (decide (k<y3.1)) (
 aj ((0:Int)<=(0:Int)/\(0:Int)<=(64:Int)/\(64:Int)<=(64:Int))<|
 ab (IntKind.i64.wrap (k-(1:Int))) fun v4=>
 ab (IntKind.i64.wrap (v4*(64:Int))) fun v5=>
 aj ((0:Int)<=v5/\v5<=(↑b.length:Int)/\(↑b.length:Int)<=(↑b.length:Int))<|
 aj ((0:Nat)<(1:Nat))<|
 ab (IntKind.i64.wrap (ov+k)) fun v6=>
 aj ((0:Nat)<([List.replicate (64:Nat) (0:Int)].set (0:Nat) (bH (0:Nat) (64:Nat) (cE v5.toNat (↑b.length:Int).toNat b) ([List.replicate (64:Nat) (0:Int)].getD (0:Nat) (List.replicate (64:Nat) (0:Int))))).length)<|
 ao (BX v6 (([List.replicate (64:Nat) (0:Int)].set (0:Nat) (bH (0:Nat) (64:Nat) (cE v5.toNat (↑b.length:Int).toNat b) ([List.replicate (64:Nat) (0:Int)].getD (0:Nat) (List.replicate (64:Nat) (0:Int))))).getD (0:Nat) (List.replicate (64:Nat) (0:Int))) dz dA dW dB o2 ry) fun y7=>
 ab (y7.1 != (0:Int)) fun v8=>
 ay v8 (
 some (.inr (.inr (y7.1,eu,eI,eF,dX,y7.2.1,y7.2.2.1,y7.2.2.2.1,y7.2.2.2.2.1,y7.2.2.2.2.2.1,pC,(q4 y7).2.2.1,())))) (
 ab (IntKind.i64.wrap (k+(1:Int))) fun v9=>
 some (.inl (kind,id,b,ov,v9,eu,eI,eF,dX,y7.2.1,y7.2.2.1,y7.2.2.2.1,y7.2.2.2.2.1,y7.2.2.2.2.2.1,pC,(q4 y7).2.2.1,())))) (
 some (.inr (.inl (kind,id,b,ov,eu,eI,eF,dX,dz,dA,dW,dB,o2,pC,ry,()))))
def Ky(s:U4):Option zcS:=ct (fun s:U4=>Kx s.1 s.2.1 s.2.2.1 s.2.2.2.1 s.2.2.2.2.1 s.2.2.2.2.2.1 (q4 s).2.2.1 (q4 s).2.2.2.1 (q8 s).1 (q8 s).2.1 (q8 s).2.2.1 (q8 s).2.2.2.1 (ax s).1 (ax s).2.1 (ax s).2.2.1 (ax s).2.2.2.1) s
def B0(region at' kind id:Int)(b:List Int)(eu eI eF:Int)(dX:Bool)(dz dA:Int)(dW:Bool)(dB:Int)(o2:List (List Int))(o3:List (Int×List Int))(o4:List (List Int)):Option (Int×Int×Int×Int×Bool×Int×Int×Bool×Int×(List (List Int))×(List (List Int))×(List (Int×List Int))×Unit):=
 ao (qm (((o2,o3,dz,dA,dW,dB),eu,eI,eF,o4,dX))) fun y0=>
 ab (IntKind.i64.wrap (region*y0.1)) fun v1=>
 ab (IntKind.i64.wrap (v1+at')) fun v2=>
 ao (Ky (kind,id,b,v2,(1:Int),eu,eI,eF,dX,dz,dA,dW,dB,o2,o4,o3,())) fun fL=>
 cC fL (fun t11=>
 ao (BY (q8 t11).1 (q8 t11).2.1 (q8 t11).2.2.1 (q8 t11).2.2.2.1 (ax t11).1 (ax t11).2.2.1) fun dR=>
 ab (dR.1 != (0:Int)) fun gM=>
 ay gM (
 some (dR.1,t11.2.2.2.2.1,t11.2.2.2.2.2.1,(q4 t11).2.2.1,(q4 t11).2.2.2.1,dR.2.1,dR.2.2.1,dR.2.2.2.1,dR.2.2.2.2.1,dR.2.2.2.2.2.1,(ax t11).2.1,(q4 dR).2.2.1,())) (
 ao (Fv t11.1 t11.2.1 t11.2.2.1) fun gN=>
 ao (BX t11.2.2.2.1 gN.1 dR.2.1 dR.2.2.1 dR.2.2.2.1 dR.2.2.2.2.1 dR.2.2.2.2.2.1 (q4 dR).2.2.1) fun ku=>
 ab (ku.1 != (0:Int)) fun v17=>
 ay v17 (
 some (ku.1,t11.2.2.2.2.1,t11.2.2.2.2.2.1,(q4 t11).2.2.1,(q4 t11).2.2.2.1,ku.2.1,ku.2.2.1,ku.2.2.2.1,ku.2.2.2.2.1,ku.2.2.2.2.2.1,(ax t11).2.1,(q4 ku).2.2.1,())) (
 ao (BY ku.2.1 ku.2.2.1 ku.2.2.2.1 ku.2.2.2.2.1 ku.2.2.2.2.2.1 (q4 ku).2.2.1) fun cA=>
 some (cA.1,t11.2.2.2.2.1,t11.2.2.2.2.2.1,(q4 t11).2.2.1,(q4 t11).2.2.2.1,cA.2.1,cA.2.2.1,cA.2.2.2.1,cA.2.2.2.2.1,cA.2.2.2.2.2.1,(ax t11).2.1,(q4 cA).2.2.1,())))) (fun Um=>
 some Um)
def zi(b:List Int)(eu eI eF:Int)(dX:Bool)(dz dA:Int)(dW:Bool)(dB:Int)(o2:List (List Int))(o3:List (Int×List Int))(o4:List (List Int)):Option (Int×Int×Int×Int×Bool×Int×Int×Bool×Int×(List (List Int))×(List (List Int))×(List (Int×List Int))×Unit):=
 ay dX (
 some ((11:Int),eu,eI,eF,dX,dz,dA,dW,dB,o2,o4,o3,())) (
 ay (decide ((↑b.length:Int)>(16384:Int))) (
 some ((12:Int),eu,eI,eF,dX,dz,dA,dW,dB,o2,o4,o3,())) (
 ao (sP ((↑b.length:Int))) fun y0=>
 ab (IntKind.i64.wrap ((1:Int)+y0.1)) fun v1=>
 ao (qm (((o2,o3,dz,dA,dW,dB),eu,eI,eF,o4,dX))) fun y2=>
 ay (decide (v1>y2.1)) (
 some ((4:Int),eu,eI,eF,dX,dz,dA,dW,dB,o2,o4,o3,())) (
 ab (IntKind.i64.wrap ((1:Int)-eu)) fun v3=>
 ao (BZ v3 ((0:Int)) eu eI eF dX dz dA dW dB o2 o3 o4) fun y4=>
 ab (y4.1 != (0:Int)) fun v5=>
 ay v5 (
 ao (zh y4.1 y4.2.1 y4.2.2.1 y4.2.2.2.1 y4.2.2.2.2.1 y4.2.2.2.2.2.1 (q4 y4).2.2.1 (q4 y4).2.2.2.1 (q8 y4).1 (q8 y4).2.1 (q8 y4).2.2.2.1 (q8 y4).2.2.1) fun y6=>
 some (y6.1,y6.2.1,y6.2.2.1,y6.2.2.2.1,y6.2.2.2.2.1,y6.2.2.2.2.2.1,(q4 y6).2.2.1,(q4 y6).2.2.2.1,(q8 y6).1,(q8 y6).2.1,(q8 y6).2.2.2.1,(q8 y6).2.2.1,())) (
 ao (B0 v3 ((1:Int)) ((2:Int)) ((0:Int)) b y4.2.1 y4.2.2.1 y4.2.2.2.1 y4.2.2.2.2.1 y4.2.2.2.2.2.1 (q4 y4).2.2.1 (q4 y4).2.2.2.1 (q8 y4).1 (q8 y4).2.1 (q8 y4).2.2.2.1 (q8 y4).2.2.1) fun y7=>
 ab (y7.1 != (0:Int)) fun v8=>
 ay v8 (
 ao (zh y7.1 y7.2.1 y7.2.2.1 y7.2.2.2.1 y7.2.2.2.2.1 y7.2.2.2.2.2.1 (q4 y7).2.2.1 (q4 y7).2.2.2.1 (q8 y7).1 (q8 y7).2.1 (q8 y7).2.2.2.1 (q8 y7).2.2.1) fun y9=>
 some (y9.1,y9.2.1,y9.2.2.1,y9.2.2.2.1,y9.2.2.2.2.1,y9.2.2.2.2.2.1,(q4 y9).2.2.1,(q4 y9).2.2.2.1,(q8 y9).1,(q8 y9).2.1,(q8 y9).2.2.2.1,(q8 y9).2.2.1,())) (
 ab (IntKind.i64.wrap (y7.2.2.1+(1:Int))) fun v10=>
 ao (B0 v3 ((0:Int)) ((1:Int)) v10 ([]) y7.2.1 y7.2.2.1 y7.2.2.2.1 y7.2.2.2.2.1 y7.2.2.2.2.2.1 (q4 y7).2.2.1 (q4 y7).2.2.2.1 (q8 y7).1 (q8 y7).2.1 (q8 y7).2.2.2.1 (q8 y7).2.2.1) fun bY=>
 ab (bY.1 != (0:Int)) fun v12=>
 ay v12 (
 ao (zh bY.1 bY.2.1 bY.2.2.1 bY.2.2.2.1 bY.2.2.2.2.1 bY.2.2.2.2.2.1 (q4 bY).2.2.1 (q4 bY).2.2.2.1 (q8 bY).1 (q8 bY).2.1 (q8 bY).2.2.2.1 (q8 bY).2.2.1) fun dR=>
 some (dR.1,dR.2.1,dR.2.2.1,dR.2.2.2.1,dR.2.2.2.2.1,dR.2.2.2.2.2.1,(q4 dR).2.2.1,(q4 dR).2.2.2.1,(q8 dR).1,(q8 dR).2.1,(q8 dR).2.2.2.1,(q8 dR).2.2.1,())) (
 ab (IntKind.i64.wrap (bY.2.2.1+(1:Int))) fun gM=>
 ao (sP ((↑b.length:Int))) fun gN=>
 ab (IntKind.i64.wrap ((1:Int)+gN.1)) fun gr=>
 aj (room (1:Nat) b.length)<|
 some ((0:Int),v3,gM,gr,bY.2.2.2.2.1,bY.2.2.2.2.2.1,(q4 bY).2.2.1,(q4 bY).2.2.2.1,(q8 bY).1,(q8 bY).2.1,[b],(q8 bY).2.2.2.1,())))))))
def B1(fM fN:Int)(fm:Bool)(fX:Int)(o1:List (List Int))(o2:List (Int×List Int)):Option ((Int×Int×Int×Bool×Int×(List (List Int))×Int×Int×Int×Bool×(List (Int×List Int))×(List (List Int))×Unit)⊕(Int×Int×Int×Bool×Int×(List (List Int))×(List (Int×List Int))×Unit)):=
 ao (qm (((o1,o2,fM,fN,fm,fX),(0:Int),(0:Int),(0:Int),[],false))) fun y0=>
 ay (decide (y0.1<(4:Int))) (
 some (.inr ((12:Int),fM,fN,fm,fX,o1,o2,()))) (
 ao (OJ ((o1,o2,fM,fN,fm,fX))) fun y1=>
 ay y1.1 (
 some (.inr ((9:Int),fM,fN,fm,fX,o1,o2,()))) (
 ao (Kt ((0:Int)) ((0:Int)) ((0:Int)) false fM fN fm fX o1 o2 ([])) fun y2=>
 ay y2.1 (
 ao (BZ y2.2.1 y2.2.2.2.1 y2.2.1 y2.2.2.1 y2.2.2.2.1 y2.2.2.2.2.1 y2.2.2.2.2.2.1 (q4 y2).2.2.1 (q4 y2).2.2.2.1 (q8 y2).1 (q8 y2).2.1 (q8 y2).2.2.2.1 (q8 y2).2.2.1) fun y3=>
 ab (y3.1 != (0:Int)) fun v4=>
 ay v4 (
 some (.inr (y3.1,y3.2.2.2.2.2.1,(q4 y3).2.2.1,(q4 y3).2.2.2.1,(q8 y3).1,(q8 y3).2.1,(q8 y3).2.2.2.1,()))) (
 some (.inl ((0:Int),y3.2.2.2.2.2.1,(q4 y3).2.2.1,(q4 y3).2.2.2.1,(q8 y3).1,(q8 y3).2.1,y3.2.1,y3.2.2.1,y3.2.2.2.1,y3.2.2.2.2.1,(q8 y3).2.2.2.1,(q8 y3).2.2.1,())))) (
 ao (zi ([]) y2.2.1 y2.2.2.1 y2.2.2.2.1 y2.2.2.2.2.1 y2.2.2.2.2.2.1 (q4 y2).2.2.1 (q4 y2).2.2.2.1 (q8 y2).1 (q8 y2).2.1 (q8 y2).2.2.2.1 (q8 y2).2.2.1) fun y5=>
 ab (y5.1 != (0:Int)) fun v6=>
 ay v6 (
 some (.inr (y5.1,y5.2.2.2.2.2.1,(q4 y5).2.2.1,(q4 y5).2.2.2.1,(q8 y5).1,(q8 y5).2.1,(q8 y5).2.2.2.1,()))) (
 some (.inl ((0:Int),y5.2.2.2.2.2.1,(q4 y5).2.2.1,(q4 y5).2.2.2.1,(q8 y5).1,(q8 y5).2.1,y5.2.1,y5.2.2.1,y5.2.2.2.1,y5.2.2.2.2.1,(q8 y5).2.2.2.1,(q8 y5).2.2.1,()))))))
abbrev U5:Type:=Int×Int×(List (List Int))×Int×Int×Int×Bool×Int×Int×Bool×Int×(List (List Int))×(List (Int×List Int))×(List (List Int))×Unit
abbrev zcT:Type:=(Int×Int×Int×Bool×Int×Int×Bool×Int×(List (List Int))×(List (Int×List Int))×(List (List Int))×(List (List Int))×Unit)⊕((List (List Int))×Int×Int×Int×Bool×Int×Int×Bool×Int×(List (List Int))×(List (Int×List Int))×(List (List Int))×Unit)
def Kz(t10 t11:Int)(out:List (List Int))(yQ xf xg:Int)(xh:Bool)(dz dA:Int)(dW:Bool)(dB:Int)(o2:List (List Int))(o3:List (Int×List Int))(x:List (List Int)):Option (U5⊕zcT):=
 ay (decide (t11<t10)) (
 aj ((0:Int)<=t11/\t11<(↑x.length:Int))<|
 aj (t11.toNat<x.length)<|
 aj (room (1:Nat) (x.getD t11.toNat []).length)<|
 aj (room (24:Nat) (out.length+[x.getD t11.toNat []].length))<|
 ab (IntKind.i64.wrap (t11+(1:Int))) fun v0=>
 some (.inl (t10,v0,out++[x.getD t11.toNat []],yQ,xf,xg,xh,dz,dA,dW,dB,o2,o3,x,()))) (
 some (.inr (.inl (yQ,xf,xg,xh,dz,dA,dW,dB,o2,o3,x,out,()))))
def U6(s:U5):Option zcT:=ct (fun s:U5=>Kz s.1 s.2.1 s.2.2.1 s.2.2.2.1 s.2.2.2.2.1 s.2.2.2.2.2.1 (q4 s).2.2.1 (q4 s).2.2.2.1 (q8 s).1 (q8 s).2.1 (q8 s).2.2.1 (q8 s).2.2.2.1 (ax s).1 (ax s).2.1) s
def KA(eu eI eF:Int)(dX:Bool)(dz dA:Int)(dW:Bool)(dB:Int)(o2:List (List Int))(o3:List (Int×List Int))(o4:List (List Int)):Option ((List (List Int))×Int×Int×Int×Bool×Int×Int×Bool×Int×(List (List Int))×(List (Int×List Int))×(List (List Int))×Unit):=
 ao (U6 ((↑o4.length:Int),(0:Int),[],eu,eI,eF,dX,dz,dA,dW,dB,o2,o3,o4,())) fun y1=>
 cC y1 (fun t2=>
 some ((q8 t2).2.2.2.1,t2.1,t2.2.1,t2.2.2.1,t2.2.2.2.1,t2.2.2.2.2.1,t2.2.2.2.2.2.1,(q4 t2).2.2.1,(q4 t2).2.2.2.1,(q8 t2).1,(q8 t2).2.1,(q8 t2).2.2.1,())) (fun r3=>
 some r3)
abbrev U7:Type:=(List (List Int))×Int×Int×Int×Int×Bool×Int×(List (List Int))×bD×Int×Int×Int×Int×Int×Int×Int×Int×Int×Int×Int×(List aX)×(List aH)×(List (Int×List aL))×(List aM)×(List (Int×Int×Int×Int))×(List (Int×List Int))×Int×Int×Int×Bool×(List (List Int))×Unit
abbrev zcU:Type:=(Int×Int×Bool×Int×(List (List Int))×Int×Int×Int×Int×Int×Int×Int×Int×Int×Int×Int×(List aX)×(List aH)×(List (Int×List aL))×(List aM)×(List (Int×Int×Int×Int))×(List (Int×List Int))×Int×Int×Int×Bool×(List (List Int))×Unit)⊕((Int×Int×Int×Bool×Int×(List (List Int))×Int×Int×Int×Int×Int×Int×Int×Int×Int×Int×Int×(List aX)×(List aH)×(List (Int×List aL))×(List aM)×(List (Int×Int×Int×Int))×(List (Int×List Int))×Int×Int×Int×Bool×(List (List Int))×Unit)⊕(Int×Int×Int×Bool×Int×(List (List Int))×(List (Int×List Int))×Unit))
def B3(t49:List (List Int))(t50 t51 xf xg:Int)(Fk:Bool)(xh:Int)(o1:List (List Int))(c:Int×Int×Int×Int×Int×Int×Int×Int×Int)(mT ml oz pq oA pw px py pz rA rC:Int)(rD:List aX)(rE:List aH)(rF:List (Int×List aL))(rG:List aM)(rH:List (Int×Int×Int×Int))(U8:List (Int×List Int))(Fy Fz FA:Int)(FB:Bool)(ui:List (List Int)):Option (U7⊕zcU):=
 ay (decide (t51<t50)) (
 aj ((0:Int)<=t51/\t51<(↑t49.length:Int))<|
 ab (t49.getD t51.toNat []) fun (v8:List Int)=>
 ao (yR v8) fun y9=>
 ay (!y9.2.1) (
 some (.inr (.inr (.inr ((1:Int),xf,xg,Fk,xh,o1,U8,()))))) (
 ao (vF c ((rA,rC,rD,rE,rF,rG,rH)) y9.1) fun fL=>
 ab (IntKind.i64.wrap (t51+(1:Int))) fun v11=>
 some (.inl (t49,t50,v11,xf,xg,Fk,xh,o1,c,mT,ml,oz,pq,oA,pw,px,py,pz,fL.1.1,fL.1.2.1,fL.1.2.2.1,fL.1.2.2.2.1,fL.1.2.2.2.2.1,fL.1.2.2.2.2.2.1,(q4 fL.1).2.2,U8,Fy,Fz,FA,FB,ui,())))) (
 some (.inr (.inl (xf,xg,Fk,xh,o1,mT,ml,oz,pq,oA,pw,px,py,pz,rA,rC,rD,rE,rF,rG,rH,U8,Fy,Fz,FA,FB,ui,()))))
def B4(s:U7):Option zcU:=ct (fun s:U7=>B3 s.1 s.2.1 s.2.2.1 s.2.2.2.1 s.2.2.2.2.1 s.2.2.2.2.2.1 (q4 s).2.2.1 (q4 s).2.2.2.1 (q8 s).1 (q8 s).2.1 (q8 s).2.2.1 (q8 s).2.2.2.1 (ax s).1 (ax s).2.1 (ax s).2.2.1 (ax s).2.2.2.1 (aA s).1 (aA s).2.1 (aA s).2.2.1 (aA s).2.2.2.1 (aG s).1 (aG s).2.1 (aG s).2.2.1 (aG s).2.2.2.1 (aJ s).1 (aJ s).2.1 (aJ s).2.2.1 (aJ s).2.2.2.1 (eD s).1 (eD s).2.1 (eD s).2.2.1) s
def iv(c:Int×Int×Int×Int×Int×Int×Int×Int×Int)(fM fN:Int)(fm:Bool)(fX:Int)(o1:List (List Int))(o2:List (Int×List Int)):Option ((Int×Int×Int×Bool×Int×(List (List Int))×Int×Int×Int×Int×Int×Int×Int×Int×Int×Int×Int×(List aX)×(List aH)×(List (Int×List aL))×(List aM)×(List (Int×Int×Int×Int))×(List (Int×List Int))×Int×Int×Int×Bool×(List (List Int))×Unit)⊕(Int×Int×Int×Bool×Int×(List (List Int))×(List (Int×List Int))×Unit)):=
 ao (B1 fM fN fm fX o1 o2) fun y0=>
 cC y0 (fun t1=>
 ab (t1.1 != (0:Int)) fun v3=>
 ay v3 (
 some (.inr (t1.1,t1.2.1,t1.2.2.1,t1.2.2.2.1,t1.2.2.2.2.1,t1.2.2.2.2.2.1,(q8 t1).2.2.1,()))) (
 ao (KA (q4 t1).2.2.1 (q4 t1).2.2.2.1 (q8 t1).1 (q8 t1).2.1 t1.2.1 t1.2.2.1 t1.2.2.2.1 t1.2.2.2.2.1 t1.2.2.2.2.2.1 (q8 t1).2.2.1 (q8 t1).2.2.2.1) fun y4=>
 aj ((0:Int)<=(0:Int)/\(0:Int)<(↑y4.1.length:Int))<|
 ab (y4.1.getD (0:Nat) []) fun (v5:List Int)=>
 ay (decide ((↑(List.length v5):Int)>(0:Int))) (
 aj ((0:Int)<=(0:Int)/\(0:Int)<(↑y4.1.length:Int))<|
 ab (y4.1.getD (0:Nat) []) fun (v6:List Int)=>
 ao (E5 v6) fun y7=>
 ay (!y7.2.1) (
 some (.inr ((1:Int),y4.2.2.2.2.2.1,(q4 y4).2.2.1,(q4 y4).2.2.2.1,(q8 y4).1,(q8 y4).2.1,(q8 y4).2.2.1,()))) (
 aj ((0:Int)<=(1:Int)/\(1:Int)<=(↑y4.1.length:Int)/\(↑y4.1.length:Int)<=(↑y4.1.length:Int))<|
 ao (B4 (cE (1:Nat) (↑y4.1.length:Int).toNat y4.1,(↑(cE (1:Nat) (↑y4.1.length:Int).toNat y4.1).length:Int),(0:Int),y4.2.2.2.2.2.1,(q4 y4).2.2.1,(q4 y4).2.2.2.1,(q8 y4).1,(q8 y4).2.1,c,c.1,c.2.1,c.2.2.1,c.2.2.2.1,c.2.2.2.2.1,c.2.2.2.2.2.1,(q4 c).2.2.1,(q4 c).2.2.2.1,(q8 c),y7.1.1,y7.1.2.1,y7.1.2.2.1,y7.1.2.2.2.1,y7.1.2.2.2.2.1,y7.1.2.2.2.2.2.1,(q4 y7.1).2.2,(q8 y4).2.2.1,y4.2.1,y4.2.2.1,y4.2.2.2.1,y4.2.2.2.2.1,(q8 y4).2.2.2.1,())) fun mR=>
 cC mR (fun t13=>
 some (.inl ((0:Int),t13.1,t13.2.1,t13.2.2.1,t13.2.2.2.1,t13.2.2.2.2.1,t13.2.2.2.2.2.1,(q4 t13).2.2.1,(q4 t13).2.2.2.1,(q8 t13).1,(q8 t13).2.1,(q8 t13).2.2.1,(q8 t13).2.2.2.1,(ax t13).1,(ax t13).2.1,(ax t13).2.2.1,(ax t13).2.2.2.1,(aA t13).1,(aA t13).2.1,(aA t13).2.2.1,(aA t13).2.2.2.1,(aG t13).1,(aG t13).2.1,(aG t13).2.2.1,(aG t13).2.2.2.1,(aJ t13).1,(aJ t13).2.1,(aJ t13).2.2.1,()))) (fun r14=>
 some r14))) (
 aj ((0:Int)<=(1:Int)/\(1:Int)<=(↑y4.1.length:Int)/\(↑y4.1.length:Int)<=(↑y4.1.length:Int))<|
 ao (B4 (cE (1:Nat) (↑y4.1.length:Int).toNat y4.1,(↑(cE (1:Nat) (↑y4.1.length:Int).toNat y4.1).length:Int),(0:Int),y4.2.2.2.2.2.1,(q4 y4).2.2.1,(q4 y4).2.2.2.1,(q8 y4).1,(q8 y4).2.1,c,c.1,c.2.1,c.2.2.1,c.2.2.2.1,c.2.2.2.2.1,c.2.2.2.2.2.1,(q4 c).2.2.1,(q4 c).2.2.2.1,(q8 c),(0:Int),(0:Int),[],[],[],[],[],(q8 y4).2.2.1,y4.2.1,y4.2.2.1,y4.2.2.2.1,y4.2.2.2.2.1,(q8 y4).2.2.2.1,())) fun gN=>
 cC gN (fun t16=>
 some (.inl ((0:Int),t16.1,t16.2.1,t16.2.2.1,t16.2.2.2.1,t16.2.2.2.2.1,t16.2.2.2.2.2.1,(q4 t16).2.2.1,(q4 t16).2.2.2.1,(q8 t16).1,(q8 t16).2.1,(q8 t16).2.2.1,(q8 t16).2.2.2.1,(ax t16).1,(ax t16).2.1,(ax t16).2.2.1,(ax t16).2.2.2.1,(aA t16).1,(aA t16).2.1,(aA t16).2.2.1,(aA t16).2.2.2.1,(aG t16).1,(aG t16).2.1,(aG t16).2.2.1,(aG t16).2.2.2.1,(aJ t16).1,(aJ t16).2.1,(aJ t16).2.2.1,()))) (fun Jg=>
 some Jg)))) (fun r2=>
 ab (r2.1 != (0:Int)) fun mn=>
 ay mn (
 some (.inr (r2.1,r2.2.1,r2.2.2.1,r2.2.2.2.1,r2.2.2.2.2.1,r2.2.2.2.2.2.1,(q4 r2).2.2.1,()))) (
 none))
def U9(l:((List (List Int))×(List (Int×List Int))×Int×Int×Bool×Int)×Int×Int×Int×(List (List Int))×Bool):Option (Bool×Unit):=
 some (l.2.2.2.2.2,())
def qo(x:bD×(((List (List Int))×(List (Int×List Int))×Int×Int×Bool×Int)×Int×Int×Int×(List (List Int))×Bool)×Int×Int×(List aX)×(List aH)×(List (Int×List aL))×(List aM)×List (Int×Int×Int×Int)):Option (Bool×Unit):=
 ao (U9 x.2.1) fun y0=>
 some (y0.1,())
def KB(l:((List (List Int))×(List (Int×List Int))×Int×Int×Bool×Int)×Int×Int×Int×(List (List Int))×Bool):Option (Int×Unit):=
 ao (qm l) fun y0=>
 ab (IntKind.i64.wrap (y0.1-l.2.2.2.1)) fun v1=>
 some (v1,())
def B5(b:List Int)(eu eI eF:Int)(dX:Bool)(dz dA:Int)(dW:Bool)(dB:Int)(o2:List (List Int))(o3:List (Int×List Int))(o4:List (List Int)):Option (Int×Int×Int×Int×Bool×Int×Int×Bool×Int×(List (List Int))×(List (List Int))×(List (Int×List Int))×Unit):=
 ay dX (
 some ((11:Int),eu,eI,eF,dX,dz,dA,dW,dB,o2,o4,o3,())) (
 ay (decide ((↑b.length:Int)>(16384:Int))) (
 some ((12:Int),eu,eI,eF,dX,dz,dA,dW,dB,o2,o4,o3,())) (
 ao (sP ((↑b.length:Int))) fun y0=>
 ao (KB (((o2,o3,dz,dA,dW,dB),eu,eI,eF,o4,dX))) fun y1=>
 ay (decide (y0.1>y1.1)) (
 some ((4:Int),eu,eI,eF,dX,dz,dA,dW,dB,o2,o4,o3,())) (
 ao (B0 eu eF ((2:Int)) ((↑o4.length:Int)) b eu eI eF dX dz dA dW dB o2 o3 o4) fun y2=>
 ab (y2.1 != (0:Int)) fun v3=>
 ay v3 (
 ao (zh y2.1 y2.2.1 y2.2.2.1 y2.2.2.2.1 y2.2.2.2.2.1 y2.2.2.2.2.2.1 (q4 y2).2.2.1 (q4 y2).2.2.2.1 (q8 y2).1 (q8 y2).2.1 (q8 y2).2.2.2.1 (q8 y2).2.2.1) fun y4=>
 some (y4.1,y4.2.1,y4.2.2.1,y4.2.2.2.1,y4.2.2.2.2.1,y4.2.2.2.2.2.1,(q4 y4).2.2.1,(q4 y4).2.2.2.1,(q8 y4).1,(q8 y4).2.1,(q8 y4).2.2.2.1,(q8 y4).2.2.1,())) (
 ao (sP ((↑b.length:Int))) fun y5=>
 ab (IntKind.i64.wrap (y2.2.2.2.1+y5.1)) fun v6=>
 aj (room (1:Nat) b.length)<|
 aj (room (24:Nat) (y2.2.2.2.2.2.2.2.2.2.2.1.length+[b].length))<|
 some ((0:Int),y2.2.1,y2.2.2.1,v6,y2.2.2.2.2.1,y2.2.2.2.2.2.1,(q4 y2).2.2.1,(q4 y2).2.2.2.1,(q8 y2).1,(q8 y2).2.1,(q8 y2).2.2.1++[b],(q8 y2).2.2.2.1,())))))
def xk(mT ml oz pq oA pw px py pz rA rC:Int)(rD:List aX)(rE:List aH)(rF:List (Int×List aL))(rG:List aM)(rH:List (Int×Int×Int×Int))(mS dz dA:Int)(dB:Bool)(B6 B7:Int)(B8:Bool)(B9:Int)(o3:List (List Int))(o4:List (Int×List Int))(o5:List (List Int)):Option (Int×Int×Int×Int×Int×Int×Int×Int×Int×Int×Int×Int×(List aX)×(List aH)×(List (Int×List aL))×(List aM)×(List (Int×Int×Int×Int))×Int×Int×Int×Bool×Int×Int×Bool×Int×(List (List Int))×(List (List Int))×(List (Int×List Int))×Unit):=
 ao (EV ((rA,rC,rD,rE,rF,rG,rH))) fun y0=>
 ao (zi y0.1 mS dz dA dB B6 B7 B8 B9 o3 o4 o5) fun y1=>
 some (y1.1,mT,ml,oz,pq,oA,pw,px,py,pz,rA,rC,rD,rE,rF,rG,rH,y1.2.1,y1.2.2.1,y1.2.2.2.1,y1.2.2.2.2.1,y1.2.2.2.2.2.1,(q4 y1).2.2.1,(q4 y1).2.2.2.1,(q8 y1).1,(q8 y1).2.1,(q8 y1).2.2.1,(q8 y1).2.2.2.1,())
def Ca(xs:List (Bool×Int×Int×cH×Int×Int)):Option (List (Bool×Int×Int×cH×Int×Int)×Unit):=
 clone 40 xs
def sQ(e:Int×aX×(Int×Int)×Int×cH×Int)(mT ml oz pq oA pw px py pz rA rC:Int)(rD:List aX)(rE:List aH)(rF:List (Int×List aL))(rG:List aM)(rH:List (Int×Int×Int×Int))(mS dz dA:Int)(dB:Bool)(B6 B7:Int)(B8:Bool)(B9:Int)(o3:List (List Int))(o4:List (Int×List Int))(o5:List (List Int)):Option ((List (Bool×Int×Int×cH×Int×Int))×Int×Int×Int×Int×Int×Int×Int×Int×Int×Int×Int×Int×(List aX)×(List aH)×(List (Int×List aL))×(List aM)×(List (Int×Int×Int×Int))×Int×Int×Int×Bool×Int×Int×Bool×Int×(List (List Int))×(List (List Int))×(List (Int×List Int))×Unit):=
 ao (qo (((mT,ml,oz,pq,oA,pw,px,py,pz),((o3,o4,B6,B7,B8,B9),mS,dz,dA,o5,dB),rA,rC,rD,rE,rF,rG,rH))) fun y0=>
 ay y0.1 (
 some ([],(11:Int),mT,ml,oz,pq,oA,pw,px,py,pz,rA,rC,rD,rE,rF,rG,rH,mS,dz,dA,dB,B6,B7,B8,B9,o3,o5,o4,())) (
 ao (sN e) fun y1=>
 ao (yR y1.1) fun y2=>
 ay (!y2.2.1) (
 some ([],(12:Int),mT,ml,oz,pq,oA,pw,px,py,pz,rA,rC,rD,rE,rF,rG,rH,mS,dz,dA,dB,B6,B7,B8,B9,o3,o5,o4,())) (
 ao (vF ((mT,ml,oz,pq,oA,pw,px,py,pz)) ((rA,rC,rD,rE,rF,rG,rH)) e) fun y3=>
 ab (y3.2.1 != (0:Int)) fun v4=>
 ay v4 (
 some ([],y3.2.1,mT,ml,oz,pq,oA,pw,px,py,pz,rA,rC,rD,rE,rF,rG,rH,mS,dz,dA,dB,B6,B7,B8,B9,o3,o5,o4,())) (
 ao (B5 y1.1 mS dz dA dB B6 B7 B8 B9 o3 o4 o5) fun y5=>
 ab (y5.1==(4:Int)) fun v6=>
 ay v6 (
 ao (xk mT ml oz pq oA pw px py pz rA rC rD rE rF rG rH y5.2.1 y5.2.2.1 y5.2.2.2.1 y5.2.2.2.2.1 y5.2.2.2.2.2.1 (q4 y5).2.2.1 (q4 y5).2.2.2.1 (q8 y5).1 (q8 y5).2.1 (q8 y5).2.2.2.1 (q8 y5).2.2.1) fun y7=>
 ab (y7.1==(0:Int)) fun v8=>
 ay v8 (
 ao (B5 y1.1 (aA y7).2.1 (aA y7).2.2.1 (aA y7).2.2.2.1 (aG y7).1 (aG y7).2.1 (aG y7).2.2.1 (aG y7).2.2.2.1 (aJ y7).1 (aJ y7).2.1 (aJ y7).2.2.2.1 (aJ y7).2.2.1) fun y9=>
 ab (y9.1 != (0:Int)) fun v10=>
 ay v10 (
 some ([],y9.1,y7.2.1,y7.2.2.1,y7.2.2.2.1,y7.2.2.2.2.1,y7.2.2.2.2.2.1,(q4 y7).2.2.1,(q4 y7).2.2.2.1,(q8 y7).1,(q8 y7).2.1,(q8 y7).2.2.1,(q8 y7).2.2.2.1,(ax y7).1,(ax y7).2.1,(ax y7).2.2.1,(ax y7).2.2.2.1,(aA y7).1,y9.2.1,y9.2.2.1,y9.2.2.2.1,y9.2.2.2.2.1,y9.2.2.2.2.2.1,(q4 y9).2.2.1,(q4 y9).2.2.2.1,(q8 y9).1,(q8 y9).2.1,(q8 y9).2.2.1,(q8 y9).2.2.2.1,())) (
 ao (Ca y3.2.2.1) fun bY=>
 some (bY.1,(0:Int),y7.2.1,y7.2.2.1,y7.2.2.2.1,y7.2.2.2.2.1,y7.2.2.2.2.2.1,(q4 y7).2.2.1,(q4 y7).2.2.2.1,(q8 y7).1,(q8 y7).2.1,y3.1.1,y3.1.2.1,y3.1.2.2.1,y3.1.2.2.2.1,y3.1.2.2.2.2.1,y3.1.2.2.2.2.2.1,(q4 y3.1).2.2,y9.2.1,y9.2.2.1,y9.2.2.2.1,y9.2.2.2.2.1,y9.2.2.2.2.2.1,(q4 y9).2.2.1,(q4 y9).2.2.2.1,(q8 y9).1,(q8 y9).2.1,(q8 y9).2.2.1,(q8 y9).2.2.2.1,()))) (
 ab (y7.1 != (0:Int)) fun v12=>
 ay v12 (
 some ([],y7.1,y7.2.1,y7.2.2.1,y7.2.2.2.1,y7.2.2.2.2.1,y7.2.2.2.2.2.1,(q4 y7).2.2.1,(q4 y7).2.2.2.1,(q8 y7).1,(q8 y7).2.1,(q8 y7).2.2.1,(q8 y7).2.2.2.1,(ax y7).1,(ax y7).2.1,(ax y7).2.2.1,(ax y7).2.2.2.1,(aA y7).1,(aA y7).2.1,(aA y7).2.2.1,(aA y7).2.2.2.1,(aG y7).1,(aG y7).2.1,(aG y7).2.2.1,(aG y7).2.2.2.1,(aJ y7).1,(aJ y7).2.1,(aJ y7).2.2.1,(aJ y7).2.2.2.1,())) (
 ao (Ca y3.2.2.1) fun dR=>
 some (dR.1,(0:Int),y7.2.1,y7.2.2.1,y7.2.2.2.1,y7.2.2.2.2.1,y7.2.2.2.2.2.1,(q4 y7).2.2.1,(q4 y7).2.2.2.1,(q8 y7).1,(q8 y7).2.1,y3.1.1,y3.1.2.1,y3.1.2.2.1,y3.1.2.2.2.1,y3.1.2.2.2.2.1,y3.1.2.2.2.2.2.1,(q4 y3.1).2.2,(aA y7).2.1,(aA y7).2.2.1,(aA y7).2.2.2.1,(aG y7).1,(aG y7).2.1,(aG y7).2.2.1,(aG y7).2.2.2.1,(aJ y7).1,(aJ y7).2.1,(aJ y7).2.2.1,(aJ y7).2.2.2.1,())))) (
 ab (y5.1 != (0:Int)) fun gM=>
 ay gM (
 some ([],y5.1,mT,ml,oz,pq,oA,pw,px,py,pz,rA,rC,rD,rE,rF,rG,rH,y5.2.1,y5.2.2.1,y5.2.2.2.1,y5.2.2.2.2.1,y5.2.2.2.2.2.1,(q4 y5).2.2.1,(q4 y5).2.2.2.1,(q8 y5).1,(q8 y5).2.1,(q8 y5).2.2.1,(q8 y5).2.2.2.1,())) (
 ao (Ca y3.2.2.1) fun gN=>
 some (gN.1,(0:Int),mT,ml,oz,pq,oA,pw,px,py,pz,y3.1.1,y3.1.2.1,y3.1.2.2.1,y3.1.2.2.2.1,y3.1.2.2.2.2.1,y3.1.2.2.2.2.2.1,(q4 y3.1).2.2,y5.2.1,y5.2.2.1,y5.2.2.2.1,y5.2.2.2.2.1,y5.2.2.2.2.2.1,(q4 y5).2.2.1,(q4 y5).2.2.2.1,(q8 y5).1,(q8 y5).2.1,(q8 y5).2.2.1,(q8 y5).2.2.2.1,()))))))
abbrev Va:Type:=Int×Int×Int×Int×Int×Int×Int×Bool×Int×(List (List Int))×(List (Int×List Int))×Unit
abbrev zcV:Type:=(Int×Int×Bool×Int×(List (List Int))×(List (Int×List Int))×Unit)⊕((List (Int×List Int))×Int×Int×Bool×Int×(List (List Int))×Unit)
def Vb(mask torn bytes t14 t15 fM fN:Int)(fm:Bool)(fX:Int)(o1:List (List Int))(x:List (Int×List Int)):Option (Va⊕zcV):=
 ay (decide (t15<t14)) (
 aj ((0:Int)<=t15/\t15<(↑x.length:Int))<|
 aj (t15.toNat<x.length)<|
 aj ((0:Nat)<(1:Nat))<|
 ab (t15==torn) fun v0=>
 ay v0 (
 aj ((0:Nat)<([((0:Int),List.replicate (64:Nat) (0:Int))].set (0:Nat) (x.getD t15.toNat ((0:Int),List.replicate (64:Nat) (0:Int)))).length)<|
 aj ((0:Int)<=(([((0:Int),List.replicate (64:Nat) (0:Int))].set (0:Nat) (x.getD t15.toNat ((0:Int),List.replicate (64:Nat) (0:Int)))).getD (0:Nat) ((0:Int),List.replicate (64:Nat) (0:Int))).1/\(([((0:Int),List.replicate (64:Nat) (0:Int))].set (0:Nat) (x.getD t15.toNat ((0:Int),List.replicate (64:Nat) (0:Int)))).getD (0:Nat) ((0:Int),List.replicate (64:Nat) (0:Int))).1<(↑o1.length:Int))<|
 aj ((0:Int)<=(0:Int)/\((0:Int)<=if (if (64:Int)<bytes then (64:Int) else bytes)>(0:Int) then if (64:Int)<bytes then (64:Int) else bytes else (0:Int))/\(if (if (64:Int)<bytes then (64:Int) else bytes)>(0:Int) then if (64:Int)<bytes then (64:Int) else bytes else (0:Int))<=(64:Int))<|
 aj ((0:Int)<=(0:Int)/\(0:Int)<=(64:Int)/\(64:Int)<=(64:Int))<|
 aj ((0:Nat)<([((0:Int),List.replicate (64:Nat) (0:Int))].set (0:Nat) (x.getD t15.toNat ((0:Int),List.replicate (64:Nat) (0:Int)))).length)<|
 aj ((([((0:Int),List.replicate (64:Nat) (0:Int))].set (0:Nat) (x.getD t15.toNat ((0:Int),List.replicate (64:Nat) (0:Int)))).getD (0:Nat) ((0:Int),List.replicate (64:Nat) (0:Int))).1.toNat<o1.length)<|
 ab (IntKind.i64.wrap (t15+(1:Int))) fun v1=>
 some (.inl (mask,torn,bytes,t14,v1,fM,fN,fm,fX,o1.set (([((0:Int),List.replicate (64:Nat) (0:Int))].set (0:Nat) (x.getD t15.toNat ((0:Int),List.replicate (64:Nat) (0:Int)))).getD (0:Nat) ((0:Int),List.replicate (64:Nat) (0:Int))).1.toNat (bH (0:Nat) ((if (if (64:Int)<bytes then (64:Int) else bytes)>(0:Int) then if (64:Int)<bytes then (64:Int) else bytes else (0:Int)).toNat-(0:Nat)) (cE (0:Nat) (64:Nat) (([((0:Int),List.replicate (64:Nat) (0:Int))].set (0:Nat) (x.getD t15.toNat ((0:Int),List.replicate (64:Nat) (0:Int)))).getD (0:Nat) ((0:Int),List.replicate (64:Nat) (0:Int))).2) (o1.getD (([((0:Int),List.replicate (64:Nat) (0:Int))].set (0:Nat) (x.getD t15.toNat ((0:Int),List.replicate (64:Nat) (0:Int)))).getD (0:Nat) ((0:Int),List.replicate (64:Nat) (0:Int))).1.toNat (List.replicate (64:Nat) (0:Int)))),x,()))) (
 aj (¬(64:Int)=(0:Int))<|
 ab (t15.tmod (64:Int)) fun v2=>
 aj ((0:Int)<=v2)<|
 ab (rZ IntKind.u64 mask v2) fun v3=>
 ab (IntKind.u64.wrap (lr IntKind.u64 v3 (1:Int))) fun v4=>
 ab (v4==(1:Int)) fun v5=>
 ay v5 (
 aj ((0:Nat)<([((0:Int),List.replicate (64:Nat) (0:Int))].set (0:Nat) (x.getD t15.toNat ((0:Int),List.replicate (64:Nat) (0:Int)))).length)<|
 aj ((0:Nat)<([((0:Int),List.replicate (64:Nat) (0:Int))].set (0:Nat) (x.getD t15.toNat ((0:Int),List.replicate (64:Nat) (0:Int)))).length)<|
 aj ((0:Int)<=(([((0:Int),List.replicate (64:Nat) (0:Int))].set (0:Nat) (x.getD t15.toNat ((0:Int),List.replicate (64:Nat) (0:Int)))).getD (0:Nat) ((0:Int),List.replicate (64:Nat) (0:Int))).1/\(([((0:Int),List.replicate (64:Nat) (0:Int))].set (0:Nat) (x.getD t15.toNat ((0:Int),List.replicate (64:Nat) (0:Int)))).getD (0:Nat) ((0:Int),List.replicate (64:Nat) (0:Int))).1<(↑o1.length:Int))<|
 aj ((([((0:Int),List.replicate (64:Nat) (0:Int))].set (0:Nat) (x.getD t15.toNat ((0:Int),List.replicate (64:Nat) (0:Int)))).getD (0:Nat) ((0:Int),List.replicate (64:Nat) (0:Int))).1.toNat<o1.length)<|
 ab (IntKind.i64.wrap (t15+(1:Int))) fun v6=>
 some (.inl (mask,torn,bytes,t14,v6,fM,fN,fm,fX,o1.set (([((0:Int),List.replicate (64:Nat) (0:Int))].set (0:Nat) (x.getD t15.toNat ((0:Int),List.replicate (64:Nat) (0:Int)))).getD (0:Nat) ((0:Int),List.replicate (64:Nat) (0:Int))).1.toNat (([((0:Int),List.replicate (64:Nat) (0:Int))].set (0:Nat) (x.getD t15.toNat ((0:Int),List.replicate (64:Nat) (0:Int)))).getD (0:Nat) ((0:Int),List.replicate (64:Nat) (0:Int))).2,x,()))) (
 ab (IntKind.i64.wrap (t15+(1:Int))) fun v7=>
 some (.inl (mask,torn,bytes,t14,v7,fM,fN,fm,fX,o1,x,()))))) (
 some (.inr (.inl (fM,fN,fm,fX,o1,x,()))))
def Vc(s:Va):Option zcV:=ct (fun s:Va=>Vb s.1 s.2.1 s.2.2.1 s.2.2.2.1 s.2.2.2.2.1 s.2.2.2.2.2.1 (q4 s).2.2.1 (q4 s).2.2.2.1 (q8 s).1 (q8 s).2.1 (q8 s).2.2.1) s
def KC(mask torn bytes fM fN:Int)(fm:Bool)(fX:Int)(o1:List (List Int))(o2:List (Int×List Int)):Option ((List (Int×List Int))×Int×Int×Bool×Int×(List (List Int))×Unit):=
 ao (Vc (mask,torn,bytes,(↑o2.length:Int),(0:Int),fM,fN,fm,fX,o1,o2,())) fun y8=>
 cC y8 (fun t9=>
 some ([],(-1:Int),(-1:Int),false,t9.2.2.2.1,t9.2.2.2.2.1,())) (fun JX=>
 some JX)
abbrev Vd:Type:=(List (List Int))×Int×Int×(List (List Int))×Unit
abbrev zcW:Type:=((List (List Int))×Unit)⊕((List (List Int))×Unit)
def KD(t9:List (List Int))(t10 t11:Int)(out:List (List Int)):Option (Vd⊕zcW):=
 ay (decide (t11<t10)) (
 aj ((0:Int)<=t11/\t11<(↑t9.length:Int))<|
 ab (t9.getD t11.toNat []) fun (v0:List Int)=>
 aj (room (1:Nat) (List.length v0))<|
 aj (room (24:Nat) (out.length+[v0].length))<|
 ab (IntKind.i64.wrap (t11+(1:Int))) fun v1=>
 some (.inl (t9,t10,v1,out++[v0],()))) (
 some (.inr (.inl (out,()))))
def OL(s:Vd):Option zcW:=ct (fun s:Vd=>KD s.1 s.2.1 s.2.2.1 s.2.2.2.1) s
def OM(l:((List (List Int))×(List (Int×List Int))×Int×Int×Bool×Int)×Int×Int×Int×(List (List Int))×Bool):Option ((List (List Int))×Unit):=
 ao (OL (l.2.2.2.2.1,(↑l.2.2.2.2.1.length:Int),(0:Int),[],())) fun y2=>
 cC y2 (fun t3=>
 some (t3.1,())) (fun r4=>
 some r4)
def ju(x:bD×(((List (List Int))×(List (Int×List Int))×Int×Int×Bool×Int)×Int×Int×Int×(List (List Int))×Bool)×Int×Int×(List aX)×(List aH)×(List (Int×List aL))×(List aM)×List (Int×Int×Int×Int)):Option (Int×Unit):=
 ao (OM x.2.1) fun y0=>
 ab (IntKind.i64.wrap ((↑y0.1.length:Int)-(1:Int))) fun v1=>
 some (v1,())
def uj(x:bD×(((List (List Int))×(List (Int×List Int))×Int×Int×Bool×Int)×Int×Int×Int×(List (List Int))×Bool)×Int×Int×(List aX)×(List aH)×(List (Int×List aL))×(List aM)×List (Int×Int×Int×Int))(a':Int):Option (Int×Unit):=
 ao (rv x.1 x.2.2 a') fun y0=>
 some (y0.1,())
def xl:Option (Bool×Unit):=
 ao (oB ((80:Int))) fun y0=>
 ao (iv (((2:Int),(3:Int),(1:Int),(5:Int),(2:Int),(2:Int),(0:Int),(4:Int),(4:Int))) y0.2.1 y0.2.2.1 y0.2.2.2.1 y0.2.2.2.2.1 y0.2.2.2.2.2.1 y0.1) fun y1=>
 cC y1 (fun t2=>
 ab false fun v4=>
 ck (!v4)<|
 ab (t2.1 != (0:Int)) fun v5=>
 cn v4<|
 ab (v4||v5) fun v6=>
 ay v6 (
 some (false,())) (
 ao (sQ (((1:Int),((5:Int),[(97:UInt8),(110:UInt8),(110:UInt8)],(0:Int),(0:Int),(0:Int),(0:Int),(0:Int),(0:Int)),((0:Int),(0:Int)),(0:Int),cJ,(0:Int))) (q4 t2).2.2.1 (q4 t2).2.2.2.1 (q8 t2).1 (q8 t2).2.1 (q8 t2).2.2.1 (q8 t2).2.2.2.1 (ax t2).1 (ax t2).2.1 (ax t2).2.2.1 (ax t2).2.2.2.1 (aA t2).1 (aA t2).2.1 (aA t2).2.2.1 (aA t2).2.2.2.1 (aG t2).1 (aG t2).2.1 (aG t2).2.2.2.1 (aJ t2).1 (aJ t2).2.1 (aJ t2).2.2.1 t2.2.1 t2.2.2.1 t2.2.2.2.1 t2.2.2.2.2.1 t2.2.2.2.2.2.1 (aG t2).2.2.1 (aJ t2).2.2.2.1) fun y7=>
 ao (KC ((0:Int)) ((-1:Int)) ((0:Int)) (aG y7).2.2.1 (aG y7).2.2.2.1 (aJ y7).1 (aJ y7).2.1 (aJ y7).2.2.1 (eD y7).1) fun y8=>
 ao (iv (((2:Int),(3:Int),(1:Int),(5:Int),(2:Int),(2:Int),(0:Int),(4:Int),(4:Int))) y8.2.1 y8.2.2.1 y8.2.2.2.1 y8.2.2.2.2.1 y8.2.2.2.2.2.1 y8.1) fun y9=>
 cC y9 (fun t10=>
 ab false fun v12=>
 ck (!v12)<|
 ab (t10.1 != (0:Int)) fun jt=>
 cn v12<|
 ab (v12||jt) fun gM=>
 ay gM (
 some (false,())) (
 ab (y7.2.1==(0:Int)) fun ic=>
 ck ic<|
 bU ic ((
 some ())) () fun ku=>
 ck ic<|
 ck ic<|
 ck ic<|
 ab ((↑t10.2.2.2.2.2.2.2.2.2.2.2.2.2.2.2.2.2.1.length:Int)==(1:Int)) fun v17=>
 ck ic<|
 ab (ic&&v17) fun mn=>
 ck mn<|
 bU mn (ju ((((q4 t10).2.2.1,(q4 t10).2.2.2.1,(q8 t10).1,(q8 t10).2.1,(q8 t10).2.2.1,(q8 t10).2.2.2.1,(ax t10).1,(ax t10).2.1,(ax t10).2.2.1),((t10.2.2.2.2.2.1,(aG t10).2.2.1,t10.2.1,t10.2.2.1,t10.2.2.2.1,t10.2.2.2.2.1),(aG t10).2.2.2.1,(aJ t10).1,(aJ t10).2.1,(aJ t10).2.2.2.1,(aJ t10).2.2.1),(ax t10).2.2.2.1,(aA t10).1,(aA t10).2.1,(aA t10).2.2.1,(aA t10).2.2.2.1,(aG t10).1,(aG t10).2.1))) ((0:Int),()) fun cZ=>
 ck mn<|
 ab (cZ.1==(1:Int)) fun v20=>
 ck mn<|
 ab (mn&&v20) fun v21=>
 ck v21<|
 bU v21 (uj ((((q4 t10).2.2.1,(q4 t10).2.2.2.1,(q8 t10).1,(q8 t10).2.1,(q8 t10).2.2.1,(q8 t10).2.2.2.1,(ax t10).1,(ax t10).2.1,(ax t10).2.2.1),((t10.2.2.2.2.2.1,(aG t10).2.2.1,t10.2.1,t10.2.2.1,t10.2.2.2.1,t10.2.2.2.2.1),(aG t10).2.2.2.1,(aJ t10).1,(aJ t10).2.1,(aJ t10).2.2.2.1,(aJ t10).2.2.1),(ax t10).2.2.2.1,(aA t10).1,(aA t10).2.1,(aA t10).2.2.1,(aA t10).2.2.2.1,(aG t10).1,(aG t10).2.1)) ((5:Int))) ((0:Int),()) fun y22=>
 ck v21<|
 ab (y22.1==(1:Int)) fun v23=>
 ck v21<|
 ab (v21&&v23) fun v24=>
 some (v24,()))) (fun UT=>
 ab true fun v25=>
 ck (!v25)<|
 ab (UT.1 != (0:Int)) fun v26=>
 cn v25<|
 ab (v25||v26) fun uh=>
 ay uh (
 some (false,())) (
 ab (y7.2.1==(0:Int)) fun v28=>
 none)))) (fun r3=>
 ab true fun kX=>
 ck (!kX)<|
 ab (r3.1 != (0:Int)) fun v30=>
 cn kX<|
 ab (kX||v30) fun v31=>
 ay v31 (
 some (false,())) (
 none))
def Ve(b:List Int)(ev:Int×aX×(Int×Int)×Int×cH×Int)(first:Bool):Option (Bool×Unit):=
 ao xl fun y0=>
 ay (!y0.1) (
 some (false,())) (
 aj ((0:Int)<=(0:Int)/\((0:Int)<=if (300:Int)<(↑b.length:Int) then (300:Int) else (↑b.length:Int))/\(if (300:Int)<(↑b.length:Int) then (300:Int) else (↑b.length:Int))<=(↑b.length:Int))<|
 ao (oB ((120:Int))) fun y1=>
 ao (B1 y1.2.1 y1.2.2.1 y1.2.2.2.1 y1.2.2.2.2.1 y1.2.2.2.2.2.1 y1.1) fun y2=>
 cC y2 (fun t3=>
 ab false fun v5=>
 ck (!v5)<|
 ab (t3.1 != (0:Int)) fun v6=>
 cn v5<|
 ab (v5||v6) fun v7=>
 ay v7 (
 some (false,())) (
 ay first (
 ao (zi (cE (0:Nat) (if (300:Int)<(↑b.length:Int) then (300:Int) else (↑b.length:Int)).toNat b) (q4 t3).2.2.1 (q4 t3).2.2.2.1 (q8 t3).1 (q8 t3).2.1 t3.2.1 t3.2.2.1 t3.2.2.2.1 t3.2.2.2.2.1 t3.2.2.2.2.2.1 (q8 t3).2.2.1 (q8 t3).2.2.2.1) fun y8=>
 ao (E5 (cE (0:Nat) (if (300:Int)<(↑b.length:Int) then (300:Int) else (↑b.length:Int)).toNat b)) fun y9=>
 ck (!y9.2.1)<|
 ck (!y9.2.1)<|
 ab ((↑(cE (0:Nat) (if (300:Int)<(↑b.length:Int) then (300:Int) else (↑b.length:Int)).toNat b).length:Int)==(0:Int)) fun v10=>
 cn y9.2.1<|
 ab (y9.2.1||v10) fun v11=>
 ab (y8.1 != (0:Int)) fun v12=>
 ay v12 (
 some (false,())) (
 ao (iv (((2:Int),(3:Int),(1:Int),(5:Int),(2:Int),(2:Int),(0:Int),(4:Int),(4:Int))) y8.2.2.2.2.2.1 (q4 y8).2.2.1 (q4 y8).2.2.2.1 (q8 y8).1 (q8 y8).2.1 (q8 y8).2.2.2.1) fun dR=>
 cC dR (fun t14=>
 ay (!v11) (
 ab false fun gr=>
 ck gr<|
 ab (t14.1==(1:Int)) fun v17=>
 ck gr<|
 ab (gr&&v17) fun mn=>
 some (mn,())) (
 ab (!false) fun iW=>
 ck iW<|
 ab (t14.1==(0:Int)) fun v20=>
 ck iW<|
 ab (iW&&v20) fun v21=>
 ck v21<|
 bU v21 (sN ev) ([],()) fun y22=>
 ck v21<|
 ck v21<|
 ck v21<|
 ab (v21&&decide ((↑y22.1.length:Int)>(0:Int))) fun v23=>
 some (v23,()))) (fun sM=>
 ay (!v11) (
 ab true fun v24=>
 ck v24<|
 ab (sM.1==(1:Int)) fun v25=>
 ck v24<|
 ab (v24&&v25) fun v26=>
 some (v26,())) (
 ab (!true) fun uh=>
 ck uh<|
 ab (sM.1==(0:Int)) fun v28=>
 ck uh<|
 ab (uh&&v28) fun kX=>
 ck kX<|
 bU kX (sN ev) ([],()) fun Vf=>
 ck kX<|
 ck kX<|
 ck kX<|
 ab (kX&&decide ((↑Vf.1.length:Int)>(0:Int))) fun v31=>
 some (v31,()))))) (
 ao (B5 (cE (0:Nat) (if (300:Int)<(↑b.length:Int) then (300:Int) else (↑b.length:Int)).toNat b) (q4 t3).2.2.1 (q4 t3).2.2.2.1 (q8 t3).1 (q8 t3).2.1 t3.2.1 t3.2.2.1 t3.2.2.2.1 t3.2.2.2.2.1 t3.2.2.2.2.2.1 (q8 t3).2.2.1 (q8 t3).2.2.2.1) fun bG=>
 ao (yR (cE (0:Nat) (if (300:Int)<(↑b.length:Int) then (300:Int) else (↑b.length:Int)).toNat b)) fun ON=>
 ab (bG.1 != (0:Int)) fun Cb=>
 ay Cb (
 some (false,())) (
 ao (iv (((2:Int),(3:Int),(1:Int),(5:Int),(2:Int),(2:Int),(0:Int),(4:Int),(4:Int))) bG.2.2.2.2.2.1 (q4 bG).2.2.1 (q4 bG).2.2.2.1 (q8 bG).1 (q8 bG).2.1 (q8 bG).2.2.2.1) fun y35=>
 cC y35 (fun t36=>
 ay (!ON.2.1) (
 ab false fun mh=>
 ck mh<|
 ab (t36.1==(1:Int)) fun v39=>
 ck mh<|
 ab (mh&&v39) fun v40=>
 some (v40,())) (
 ab (!false) fun v41=>
 ck v41<|
 ab (t36.1==(0:Int)) fun iX=>
 ck v41<|
 ab (v41&&iX) fun FC=>
 ck FC<|
 bU FC (sN ev) ([],()) fun KE=>
 ck FC<|
 ck FC<|
 ck FC<|
 ab (FC&&decide ((↑KE.1.length:Int)>(0:Int))) fun v45=>
 some (v45,()))) (fun r37=>
 ay (!ON.2.1) (
 ab true fun v46=>
 ck v46<|
 ab (r37.1==(1:Int)) fun xi=>
 ck v46<|
 ab (v46&&xi) fun ie=>
 some (ie,())) (
 ab (!true) fun v49=>
 ck v49<|
 ab (r37.1==(0:Int)) fun v50=>
 ck v49<|
 ab (v49&&v50) fun v51=>
 ck v51<|
 bU v51 (sN ev) ([],()) fun FE=>
 ck v51<|
 ck v51<|
 ck v51<|
 ab (v51&&decide ((↑FE.1.length:Int)>(0:Int))) fun v53=>
 some (v53,()))))))) (fun r4=>
 ab true fun v54=>
 ck (!v54)<|
 ab (r4.1 != (0:Int)) fun v55=>
 cn v54<|
 ab (v54||v55) fun Kk=>
 ay Kk (
 some (false,())) (
 ay first (
 none) (
 none))))
def FF(n fM fN:Int)(fm:Bool)(fX:Int)(o1:List (List Int))(o2:List (Int×List Int)):Option (Int×Int×Bool×Int×(List (List Int))×(List (Int×List Int))×Unit):=
 some (fM,if n>(-1:Int) then n else (-1:Int),fm,fX,o1,o2,())
def sR(eE:List cH):Option ((List cw)×Unit):=
 ao (Jv eE) fun y0=>
 aj ((0:Int)<=(0:Int)/\((0:Int)<=if (200:Int)<(↑y0.1.length:Int) then (200:Int) else (↑y0.1.length:Int))/\(if (200:Int)<(↑y0.1.length:Int) then (200:Int) else (↑y0.1.length:Int))<=(↑y0.1.length:Int))<|
 aj ((0:Nat)+((if (200:Int)<(↑y0.1.length:Int) then (200:Int) else (↑y0.1.length:Int)).toNat-(0:Nat))<=y0.1.length)<|
 some (cE (0:Nat) ((0:Nat)+((if (200:Int)<(↑y0.1.length:Int) then (200:Int) else (↑y0.1.length:Int)).toNat-(0:Nat))) y0.1,())
abbrev Vg:Type:=(List cw)×Int×Int×bD×Int×Int×Int×Int×Int×Int×Int×Int×Int×Int×Int×(List aX)×(List aH)×(List (Int×List aL))×(List aM)×(List (Int×Int×Int×Int))×(Int×Int×(List aX)×(List aH)×(List (Int×List aL))×(List aM)×List (Int×Int×Int×Int))×Int×Int×Int×Bool×Int×Int×Bool×Int×(List (List Int))×(List (List Int))×(List (Int×List Int))×Unit
abbrev zcZ:Type:=(Int×Int×Int×Int×Int×Int×Int×Int×Int×Int×Int×(List aX)×(List aH)×(List (Int×List aL))×(List aM)×(List (Int×Int×Int×Int))×Int×Int×Int×Bool×Int×Int×Bool×Int×(List (List Int))×(List (List Int))×(List (Int×List Int))×Unit)⊕(Bool×Unit)
def KF(t39:List cw)(t40 t41:Int)(c:Int×Int×Int×Int×Int×Int×Int×Int×Int)(sS sT sU sV sW sX sY sZ s0 s6 s7:Int)(s8:List aX)(s9:List aH)(ta:List (Int×List aL))(tc:List aM)(td:List (Int×Int×Int×Int))(s':Int×Int×(List aX)×(List aH)×(List (Int×List aL))×(List aM)×List (Int×Int×Int×Int))(Fy Fz FA:Int)(FB:Bool)(Vh Vi:Int)(Vj:Bool)(Vk:Int)(FH xm:List (List Int))(FI:List (Int×List Int)):Option (Vg⊕zcZ):=
 ay (decide (t41<t40)) (
 aj ((0:Int)<=t41/\t41<(↑t39.length:Int))<|
 ab ((Option.rec jh (fun val=>val) t39[t41.toNat]?)) fun (v12:Int×aX×(Int×Int)×Int×cH×Int)=>
 ao (qo (((sS,sT,sU,sV,sW,sX,sY,sZ,s0),((xm,FI,Vh,Vi,Vj,Vk),Fy,Fz,FA,FH,FB),s6,s7,s8,s9,ta,tc,td))) fun dR=>
 ao (sQ v12 sS sT sU sV sW sX sY sZ s0 s6 s7 s8 s9 ta tc td Fy Fz FA FB Vh Vi Vj Vk xm FI FH) fun av=>
 ck dR.1<|
 ab (av.2.1 != (11:Int)) fun ic=>
 ck dR.1<|
 ab (dR.1&&ic) fun gr=>
 ck (!gr)<|
 ck (!gr)<|
 ck (!gr&&!dR.1)<|
 ab (av.2.1==(11:Int)) fun v17=>
 ck (!gr)<|
 aj ((!gr)=true->(!dR.1)=true->(!gr&&!dR.1)=true)<|
 ab (!dR.1&&v17) fun mn=>
 cn gr<|
 ab (gr||mn) fun iW=>
 ck (!iW)<|
 ab (av.2.1 != (0:Int)) fun v20=>
 ck (!iW)<|
 ck (!iW&&v20)<|
 ck (!iW&&v20)<|
 ab ((↑av.1.length:Int) != (0:Int)) fun v21=>
 ck (!iW)<|
 aj ((!iW)=true->v20=true->(!iW&&v20)=true)<|
 ab (v20&&v21) fun v22=>
 cn iW<|
 ab (iW||v22) fun v23=>
 ay v23 (
 some (.inr (.inr (false,())))) (
 ab (av.2.1==(0:Int)) fun v24=>
 ay v24 (
 ao (vF c s' v12) fun Ft=>
 ao ((
 some ())) fun qj=>
 ao (lF (((q8 av).2.2.2.1,(ax av).1,(ax av).2.1,(ax av).2.2.1,(ax av).2.2.2.1,(aA av).1,(aA av).2.1)) Ft.1) fun rI=>
 ck (!!rI.1)<|
 ab (av.2.1==(10:Int)) fun v28=>
 ck (!!rI.1)<|
 ck (!!rI.1&&v28)<|
 bU (!!rI.1&&v28) (qo (((av.2.2.1,av.2.2.2.1,av.2.2.2.2.1,av.2.2.2.2.2.1,(q4 av).2.2.1,(q4 av).2.2.2.1,(q8 av).1,(q8 av).2.1,(q8 av).2.2.1),(((aJ av).2.2.1,(eD av).1,(aG av).2.2.1,(aG av).2.2.2.1,(aJ av).1,(aJ av).2.1),(aA av).2.2.1,(aA av).2.2.2.1,(aG av).1,(aJ av).2.2.2.1,(aG av).2.1),(q8 av).2.2.2.1,(ax av).1,(ax av).2.1,(ax av).2.2.1,(ax av).2.2.2.1,(aA av).1,(aA av).2.1))) (false,()) fun sL=>
 ck (!!rI.1&&v28)<|
 ck (!!rI.1)<|
 aj ((!!rI.1)=true->v28=true->(!!rI.1&&v28)=true)<|
 ab (v28&&!sL.1) fun v30=>
 cn (!rI.1)<|
 ab (!rI.1||v30) fun v31=>
 ck (!v31)<|
 ck (!v31)<|
 ck (!v31)<|
 ck (!v31)<|
 bU (!v31) (uj (((av.2.2.1,av.2.2.2.1,av.2.2.2.2.1,av.2.2.2.2.2.1,(q4 av).2.2.1,(q4 av).2.2.2.1,(q8 av).1,(q8 av).2.1,(q8 av).2.2.1),(((aJ av).2.2.1,(eD av).1,(aG av).2.2.1,(aG av).2.2.2.1,(aJ av).1,(aJ av).2.1),(aA av).2.2.1,(aA av).2.2.2.1,(aG av).1,(aJ av).2.2.2.1,(aG av).2.1),(q8 av).2.2.2.1,(ax av).1,(ax av).2.1,(ax av).2.2.1,(ax av).2.2.2.1,(aA av).1,(aA av).2.1)) v12.2.1.1) ((0:Int),()) fun bG=>
 ck (!v31)<|
 ck (!v31)<|
 ck (!v31)<|
 ck (!v31)<|
 ck (!v31)<|
 bU (!v31) (rv c Ft.1 v12.2.1.1) ((0:Int),()) fun ON=>
 ck (!v31)<|
 ck (!v31)<|
 ab (bG.1 != ON.1) fun Cb=>
 cn v31<|
 ab (v31||Cb) fun v35=>
 ay v35 (
 some (.inr (.inr (false,())))) (
 ab (IntKind.i64.wrap (t41+(1:Int))) fun Vl=>
 some (.inl (t39,t40,Vl,c,av.2.2.1,av.2.2.2.1,av.2.2.2.2.1,av.2.2.2.2.2.1,(q4 av).2.2.1,(q4 av).2.2.2.1,(q8 av).1,(q8 av).2.1,(q8 av).2.2.1,(q8 av).2.2.2.1,(ax av).1,(ax av).2.1,(ax av).2.2.1,(ax av).2.2.2.1,(aA av).1,(aA av).2.1,Ft.1,(aA av).2.2.1,(aA av).2.2.2.1,(aG av).1,(aG av).2.1,(aG av).2.2.1,(aG av).2.2.2.1,(aJ av).1,(aJ av).2.1,(aJ av).2.2.2.1,(aJ av).2.2.1,(eD av).1,())))) (
 ao ((
 some ())) fun y37=>
 ao (lF (((q8 av).2.2.2.1,(ax av).1,(ax av).2.1,(ax av).2.2.1,(ax av).2.2.2.1,(aA av).1,(aA av).2.1)) s') fun te=>
 ck (!!te.1)<|
 ab (av.2.1==(10:Int)) fun v39=>
 ck (!!te.1)<|
 ck (!!te.1&&v39)<|
 bU (!!te.1&&v39) (qo (((av.2.2.1,av.2.2.2.1,av.2.2.2.2.1,av.2.2.2.2.2.1,(q4 av).2.2.1,(q4 av).2.2.2.1,(q8 av).1,(q8 av).2.1,(q8 av).2.2.1),(((aJ av).2.2.1,(eD av).1,(aG av).2.2.1,(aG av).2.2.2.1,(aJ av).1,(aJ av).2.1),(aA av).2.2.1,(aA av).2.2.2.1,(aG av).1,(aJ av).2.2.2.1,(aG av).2.1),(q8 av).2.2.2.1,(ax av).1,(ax av).2.1,(ax av).2.2.1,(ax av).2.2.2.1,(aA av).1,(aA av).2.1))) (false,()) fun y40=>
 ck (!!te.1&&v39)<|
 ck (!!te.1)<|
 aj ((!!te.1)=true->v39=true->(!!te.1&&v39)=true)<|
 ab (v39&&!y40.1) fun v41=>
 cn (!te.1)<|
 ab (!te.1||v41) fun iX=>
 ck (!iX)<|
 ck (!iX)<|
 ck (!iX)<|
 ck (!iX)<|
 bU (!iX) (uj (((av.2.2.1,av.2.2.2.1,av.2.2.2.2.1,av.2.2.2.2.2.1,(q4 av).2.2.1,(q4 av).2.2.2.1,(q8 av).1,(q8 av).2.1,(q8 av).2.2.1),(((aJ av).2.2.1,(eD av).1,(aG av).2.2.1,(aG av).2.2.2.1,(aJ av).1,(aJ av).2.1),(aA av).2.2.1,(aA av).2.2.2.1,(aG av).1,(aJ av).2.2.2.1,(aG av).2.1),(q8 av).2.2.2.1,(ax av).1,(ax av).2.1,(ax av).2.2.1,(ax av).2.2.2.1,(aA av).1,(aA av).2.1)) v12.2.1.1) ((0:Int),()) fun OO=>
 ck (!iX)<|
 ck (!iX)<|
 ck (!iX)<|
 ck (!iX)<|
 ck (!iX)<|
 bU (!iX) (rv c s' v12.2.1.1) ((0:Int),()) fun KE=>
 ck (!iX)<|
 ck (!iX)<|
 ab (OO.1 != KE.1) fun v45=>
 cn iX<|
 ab (iX||v45) fun v46=>
 ay v46 (
 some (.inr (.inr (false,())))) (
 ab (IntKind.i64.wrap (t41+(1:Int))) fun xi=>
 some (.inl (t39,t40,xi,c,av.2.2.1,av.2.2.2.1,av.2.2.2.2.1,av.2.2.2.2.2.1,(q4 av).2.2.1,(q4 av).2.2.2.1,(q8 av).1,(q8 av).2.1,(q8 av).2.2.1,(q8 av).2.2.2.1,(ax av).1,(ax av).2.1,(ax av).2.2.1,(ax av).2.2.2.1,(aA av).1,(aA av).2.1,s',(aA av).2.2.1,(aA av).2.2.2.1,(aG av).1,(aG av).2.1,(aG av).2.2.1,(aG av).2.2.2.1,(aJ av).1,(aJ av).2.1,(aJ av).2.2.2.1,(aJ av).2.2.1,(eD av).1,())))))) (
 some (.inr (.inl (sS,sT,sU,sV,sW,sX,sY,sZ,s0,s6,s7,s8,s9,ta,tc,td,Fy,Fz,FA,FB,Vh,Vi,Vj,Vk,FH,xm,FI,()))))
def Vm(s:Vg):Option zcZ:=ct (fun s:Vg=>KF s.1 s.2.1 s.2.2.1 s.2.2.2.1 s.2.2.2.2.1 s.2.2.2.2.2.1 (q4 s).2.2.1 (q4 s).2.2.2.1 (q8 s).1 (q8 s).2.1 (q8 s).2.2.1 (q8 s).2.2.2.1 (ax s).1 (ax s).2.1 (ax s).2.2.1 (ax s).2.2.2.1 (aA s).1 (aA s).2.1 (aA s).2.2.1 (aA s).2.2.2.1 (aG s).1 (aG s).2.1 (aG s).2.2.1 (aG s).2.2.2.1 (aJ s).1 (aJ s).2.1 (aJ s).2.2.1 (aJ s).2.2.2.1 (eD s).1 (eD s).2.1 (eD s).2.2.1 (eD s).2.2.2.1) s
def Vn(x:Int×Int×Int×Int×Int×Int×Int×Int×Int)(eE:List cH)(fail:Int):Option (Bool×Unit):=
 ao xl fun y0=>
 ay (!y0.1) (
 some (false,())) (
 ao (yX x) fun y1=>
 ao (oB ((120:Int))) fun y2=>
 ao (iv y1.1 y2.2.1 y2.2.2.1 y2.2.2.2.1 y2.2.2.2.2.1 y2.2.2.2.2.2.1 y2.1) fun y3=>
 cC y3 (fun t4=>
 ab false fun v6=>
 ck (!v6)<|
 ab (t4.1 != (0:Int)) fun v7=>
 cn v6<|
 ab (v6||v7) fun v8=>
 ay v8 (
 some (false,())) (
 ab (IntKind.i64.wrap fail) fun v9=>
 ao (FF v9 t4.2.1 t4.2.2.1 t4.2.2.2.1 t4.2.2.2.2.1 t4.2.2.2.2.2.1 (aG t4).2.2.1) fun fL=>
 ao (sR eE) fun bY=>
 ao (Vm (bY.1,(↑bY.1.length:Int),(0:Int),y1.1,(q4 t4).2.2.1,(q4 t4).2.2.2.1,(q8 t4).1,(q8 t4).2.1,(q8 t4).2.2.1,(q8 t4).2.2.2.1,(ax t4).1,(ax t4).2.1,(ax t4).2.2.1,(ax t4).2.2.2.1,(aA t4).1,(aA t4).2.1,(aA t4).2.2.1,(aA t4).2.2.2.1,(aG t4).1,(aG t4).2.1,((0:Int),(0:Int),[],[],[],[],[]),(aG t4).2.2.2.1,(aJ t4).1,(aJ t4).2.1,(aJ t4).2.2.1,fL.1,fL.2.1,fL.2.2.1,fL.2.2.2.1,(aJ t4).2.2.2.1,fL.2.2.2.2.1,fL.2.2.2.2.2.1,())) fun y48=>
 cC y48 (fun t49=>
 ao (qo (((t49.1,t49.2.1,t49.2.2.1,t49.2.2.2.1,t49.2.2.2.2.1,t49.2.2.2.2.2.1,(q4 t49).2.2.1,(q4 t49).2.2.2.1,(q8 t49).1),(((aJ t49).2.1,(aJ t49).2.2.1,(aG t49).1,(aG t49).2.1,(aG t49).2.2.1,(aG t49).2.2.2.1),(aA t49).1,(aA t49).2.1,(aA t49).2.2.1,(aJ t49).1,(aA t49).2.2.2.1),(q8 t49).2.1,(q8 t49).2.2.1,(q8 t49).2.2.2.1,(ax t49).1,(ax t49).2.1,(ax t49).2.2.1,(ax t49).2.2.2.1))) fun KH=>
 ck (!KH.1)<|
 bU (!KH.1) (xk t49.1 t49.2.1 t49.2.2.1 t49.2.2.2.1 t49.2.2.2.2.1 t49.2.2.2.2.2.1 (q4 t49).2.2.1 (q4 t49).2.2.2.1 (q8 t49).1 (q8 t49).2.1 (q8 t49).2.2.1 (q8 t49).2.2.2.1 (ax t49).1 (ax t49).2.1 (ax t49).2.2.1 (ax t49).2.2.2.1 (aA t49).1 (aA t49).2.1 (aA t49).2.2.1 (aA t49).2.2.2.1 (aG t49).1 (aG t49).2.1 (aG t49).2.2.1 (aG t49).2.2.2.1 (aJ t49).2.1 (aJ t49).2.2.1 (aJ t49).1) ((0:Int),(0:Int),(0:Int),(0:Int),(0:Int),(0:Int),(0:Int),(0:Int),(0:Int),(0:Int),(0:Int),(0:Int),[],[],[],[],[],(0:Int),(0:Int),(0:Int),false,(0:Int),(0:Int),false,(0:Int),[],[],[],()) fun FE=>
 ck (!KH.1)<|
 ab (FE.1 != (11:Int)) fun v53=>
 cn KH.1<|
 ab (KH.1||v53) fun v54=>
 some (v54,())) (fun r50=>
 some r50))) (fun r5=>
 ab true fun v55=>
 ck (!v55)<|
 ab (r5.1 != (0:Int)) fun Kk=>
 cn v55<|
 ab (v55||Kk) fun OH=>
 ay OH (
 some (false,())) (
 ab (IntKind.i64.wrap fail) fun v58=>
 ao (FF v58 r5.2.1 r5.2.2.1 r5.2.2.2.1 r5.2.2.2.2.1 r5.2.2.2.2.2.1 (q4 r5).2.2.1) fun y59=>
 ao (sR eE) fun y60=>
 none)))
def FJ(d:(List (List Int))×(List (Int×List Int))×Int×Int×Bool×Int):Option (Int×Unit):=
 some (d.2.2.2.2.2,())
abbrev Vo:Type:=(List cw)×Int×Int×Int×Int×(List UInt8)×Int×Int×Int×Int×Int×Int×Int×Int×Int×Int×Int×Int×Int×Int×Int×Int×Int×Int×Bool×Int×Int×Int×Int×Int×Int×Int×Int×Int×Int×Int×Int×(List aX)×(List aH)×(List (Int×List aL))×(List aM)×(List (Int×Int×Int×Int))×(List (List Int))×(List (Int×List Int))×Int×Int×Int×Bool×(List (List Int))×Unit
abbrev zc0:Type:=(Int×Int×(List UInt8)×Int×Int×Int×Int×Int×Int×Int×Int×Int×Int×Int×Int×Int×Int×Int×Int×Int×Int×Bool×Int×Int×Int×Int×Int×Int×Int×Int×Int×Int×Int×Int×(List aX)×(List aH)×(List (Int×List aL))×(List aM)×(List (Int×Int×Int×Int))×(List (List Int))×(List (Int×List Int))×Int×Int×Int×Bool×(List (List Int))×Unit)⊕(Bool×Unit)
def KI(t47:List cw)(t48 t49 zc1 zc2:Int)(zc3:List UInt8)(zc4 zc5 zc6 zc7 zc8 zc9 zda zdb zdc zdd zde zdf zdg zdh zdi zdj fM fN:Int)(fm:Bool)(fX sS sT sU sV sW sX sY sZ s0 s6 s7:Int)(s8:List aX)(s9:List aH)(ta:List (Int×List aL))(tc:List aM)(td:List (Int×Int×Int×Int))(KJ:List (List Int))(ui:List (Int×List Int))(KK KL KM:Int)(KN:Bool)(xm:List (List Int)):Option (Vo⊕zc0):=
 ay (decide (t49<t48)) (
 aj ((0:Int)<=t49/\t49<(↑t47.length:Int))<|
 ab ((Option.rec jh (fun val=>val) t47[t49.toNat]?)) fun (v10:Int×aX×(Int×Int)×Int×cH×Int)=>
 ao (sQ v10 sS sT sU sV sW sX sY sZ s0 s6 s7 s8 s9 ta tc td KK KL KM KN fM fN fm fX KJ ui xm) fun bY=>
 ab (IntKind.i64.wrap (t49+(1:Int))) fun v12=>
 some (.inl (t47,t48,v12,zc1,zc2,zc3,zc4,zc5,zc6,zc7,zc8,zc9,zda,zdb,zdc,zdd,zde,zdf,zdg,zdh,zdi,zdj,(aG bY).2.2.1,(aG bY).2.2.2.1,(aJ bY).1,(aJ bY).2.1,bY.2.2.1,bY.2.2.2.1,bY.2.2.2.2.1,bY.2.2.2.2.2.1,(q4 bY).2.2.1,(q4 bY).2.2.2.1,(q8 bY).1,(q8 bY).2.1,(q8 bY).2.2.1,(q8 bY).2.2.2.1,(ax bY).1,(ax bY).2.1,(ax bY).2.2.1,(ax bY).2.2.2.1,(aA bY).1,(aA bY).2.1,(aJ bY).2.2.1,(eD bY).1,(aA bY).2.2.1,(aA bY).2.2.2.1,(aG bY).1,(aG bY).2.1,(aJ bY).2.2.2.1,()))) (
 some (.inr (.inl (zc1,zc2,zc3,zc4,zc5,zc6,zc7,zc8,zc9,zda,zdb,zdc,zdd,zde,zdf,zdg,zdh,zdi,zdj,fM,fN,fm,fX,sS,sT,sU,sV,sW,sX,sY,sZ,s0,s6,s7,s8,s9,ta,tc,td,KJ,ui,KK,KL,KM,KN,xm,()))))
def Vp(s:Vo):Option zc0:=ct (fun s:Vo=>KI s.1 s.2.1 s.2.2.1 s.2.2.2.1 s.2.2.2.2.1 s.2.2.2.2.2.1 (q4 s).2.2.1 (q4 s).2.2.2.1 (q8 s).1 (q8 s).2.1 (q8 s).2.2.1 (q8 s).2.2.2.1 (ax s).1 (ax s).2.1 (ax s).2.2.1 (ax s).2.2.2.1 (aA s).1 (aA s).2.1 (aA s).2.2.1 (aA s).2.2.2.1 (aG s).1 (aG s).2.1 (aG s).2.2.1 (aG s).2.2.2.1 (aJ s).1 (aJ s).2.1 (aJ s).2.2.1 (aJ s).2.2.2.1 (eD s).1 (eD s).2.1 (eD s).2.2.1 (eD s).2.2.2.1 (nJ s).1 (nJ s).2.1 (nJ s).2.2.1 (nJ s).2.2.2.1 (oq s).1 (oq s).2.1 (oq s).2.2.1 (oq s).2.2.2.1 (q9 s).1 (q9 s).2.1 (q9 s).2.2.1 (q9 s).2.2.2.1 (yN s).1 (yN s).2.1 (yN s).2.2.1 (yN s).2.2.2.1 (q48 s).1) s
def Vq(x:Int×Int×Int×Int×Int×Int×Int×Int×Int)(eE:List cH)(ev:Int×aX×(Int×Int)×Int×cH×Int):Option (Bool×Unit):=
 ao xl fun y0=>
 ay (!y0.1) (
 some (false,())) (
 ao (yX x) fun y1=>
 aj ((0:Int)<=(0:Int)/\((0:Int)<=if (100:Int)<(↑ev.2.1.2.1.length:Int) then (100:Int) else (↑ev.2.1.2.1.length:Int))/\(if (100:Int)<(↑ev.2.1.2.1.length:Int) then (100:Int) else (↑ev.2.1.2.1.length:Int))<=(↑ev.2.1.2.1.length:Int))<|
 ao (oB ((512:Int))) fun y2=>
 ao (iv y1.1 y2.2.1 y2.2.2.1 y2.2.2.2.1 y2.2.2.2.2.1 y2.2.2.2.2.2.1 y2.1) fun y3=>
 cC y3 (fun t4=>
 ab false fun v6=>
 ck (!v6)<|
 ab (t4.1 != (0:Int)) fun v7=>
 cn v6<|
 ab (v6||v7) fun v8=>
 ay v8 (
 some (false,())) (
 ao (sR eE) fun y9=>
 ao (Vp (y9.1,(↑y9.1.length:Int),(0:Int),ev.1,ev.2.1.1,cE (0:Nat) (if (100:Int)<(↑ev.2.1.2.1.length:Int) then (100:Int) else (↑ev.2.1.2.1.length:Int)).toNat ev.2.1.2.1,ev.2.1.2.2.1,ev.2.1.2.2.2.1,ev.2.1.2.2.2.2.1,ev.2.1.2.2.2.2.2.1,(q4 ev.2.1).2.2.1,(q4 ev.2.1).2.2.2,ev.2.2.1.1,ev.2.2.1.2,ev.2.2.2.1,ev.2.2.2.2.1.1,ev.2.2.2.2.1.2.1,ev.2.2.2.2.1.2.2.1,ev.2.2.2.2.1.2.2.2.1,ev.2.2.2.2.1.2.2.2.2.1,ev.2.2.2.2.1.2.2.2.2.2,ev.2.2.2.2.2,t4.2.1,t4.2.2.1,t4.2.2.2.1,t4.2.2.2.2.1,(q4 t4).2.2.1,(q4 t4).2.2.2.1,(q8 t4).1,(q8 t4).2.1,(q8 t4).2.2.1,(q8 t4).2.2.2.1,(ax t4).1,(ax t4).2.1,(ax t4).2.2.1,(ax t4).2.2.2.1,(aA t4).1,(aA t4).2.1,(aA t4).2.2.1,(aA t4).2.2.2.1,(aG t4).1,(aG t4).2.1,t4.2.2.2.2.2.1,(aG t4).2.2.1,(aG t4).2.2.2.1,(aJ t4).1,(aJ t4).2.1,(aJ t4).2.2.1,(aJ t4).2.2.2.1,())) fun dR=>
 cC dR (fun t14=>
 ao ((
 some ())) fun ku=>
 ao (ju ((((aG t14).2.2.2.1,(aJ t14).1,(aJ t14).2.1,(aJ t14).2.2.1,(aJ t14).2.2.2.1,(eD t14).1,(eD t14).2.1,(eD t14).2.2.1,(eD t14).2.2.2.1),(((oq t14).2.2.2.1,(q9 t14).1,(aA t14).2.2.2.1,(aG t14).1,(aG t14).2.1,(aG t14).2.2.1),(q9 t14).2.1,(q9 t14).2.2.1,(q9 t14).2.2.2.1,(yN t14).2.1,(yN t14).1),(nJ t14).1,(nJ t14).2.1,(nJ t14).2.2.1,(nJ t14).2.2.2.1,(oq t14).1,(oq t14).2.1,(oq t14).2.2.1))) fun yS=>
 ao (FJ (((oq t14).2.2.2.1,(q9 t14).1,(aA t14).2.2.2.1,(aG t14).1,(aG t14).2.1,(aG t14).2.2.1))) fun cA=>
 ao (sQ ((t14.1,(t14.2.1,t14.2.2.1,t14.2.2.2.1,t14.2.2.2.2.1,t14.2.2.2.2.2.1,(q4 t14).2.2.1,(q4 t14).2.2.2.1,(q8 t14).1),((q8 t14).2.1,(q8 t14).2.2.1),(q8 t14).2.2.2.1,((ax t14).1,(ax t14).2.1,(ax t14).2.2.1,(ax t14).2.2.2.1,(aA t14).1,(aA t14).2.1),(aA t14).2.2.1)) (aG t14).2.2.2.1 (aJ t14).1 (aJ t14).2.1 (aJ t14).2.2.1 (aJ t14).2.2.2.1 (eD t14).1 (eD t14).2.1 (eD t14).2.2.1 (eD t14).2.2.2.1 (nJ t14).1 (nJ t14).2.1 (nJ t14).2.2.1 (nJ t14).2.2.2.1 (oq t14).1 (oq t14).2.1 (oq t14).2.2.1 (q9 t14).2.1 (q9 t14).2.2.1 (q9 t14).2.2.2.1 (yN t14).1 (aA t14).2.2.2.1 (aG t14).1 (aG t14).2.1 (aG t14).2.2.1 (oq t14).2.2.2.1 (q9 t14).1 (yN t14).2.1) fun cZ=>
 ab (cZ.2.1==(0:Int)) fun v20=>
 ay v20 (
 ao (FJ (((aJ cZ).2.2.1,(eD cZ).1,(aG cZ).2.2.1,(aG cZ).2.2.2.1,(aJ cZ).1,(aJ cZ).2.1))) fun y21=>
 some (decide (y21.1>cA.1),())) (
 ao ((
 some ())) fun y22=>
 ao (lF (((q8 cZ).2.2.2.1,(ax cZ).1,(ax cZ).2.1,(ax cZ).2.2.1,(ax cZ).2.2.2.1,(aA cZ).1,(aA cZ).2.1)) (((nJ t14).1,(nJ t14).2.1,(nJ t14).2.2.1,(nJ t14).2.2.2.1,(oq t14).1,(oq t14).2.1,(oq t14).2.2.1))) fun y23=>
 ck y23.1<|
 bU y23.1 (ju (((cZ.2.2.1,cZ.2.2.2.1,cZ.2.2.2.2.1,cZ.2.2.2.2.2.1,(q4 cZ).2.2.1,(q4 cZ).2.2.2.1,(q8 cZ).1,(q8 cZ).2.1,(q8 cZ).2.2.1),(((aJ cZ).2.2.1,(eD cZ).1,(aG cZ).2.2.1,(aG cZ).2.2.2.1,(aJ cZ).1,(aJ cZ).2.1),(aA cZ).2.2.1,(aA cZ).2.2.2.1,(aG cZ).1,(aJ cZ).2.2.2.1,(aG cZ).2.1),(q8 cZ).2.2.2.1,(ax cZ).1,(ax cZ).2.1,(ax cZ).2.2.1,(ax cZ).2.2.2.1,(aA cZ).1,(aA cZ).2.1))) ((0:Int),()) fun ou=>
 ck y23.1<|
 ck y23.1<|
 ab (ou.1==yS.1) fun v25=>
 ck y23.1<|
 ab (y23.1&&v25) fun v26=>
 ck v26<|
 bU v26 (FJ (((aJ cZ).2.2.1,(eD cZ).1,(aG cZ).2.2.1,(aG cZ).2.2.2.1,(aJ cZ).1,(aJ cZ).2.1))) ((0:Int),()) fun rI=>
 ck v26<|
 ck v26<|
 ab (rI.1==cA.1) fun v28=>
 ck v26<|
 ab (v26&&v28) fun kX=>
 ck kX<|
 ck kX<|
 ab ((↑cZ.1.length:Int)==(0:Int)) fun v30=>
 ck kX<|
 ab (kX&&v30) fun v31=>
 some (v31,()))) (fun sM=>
 some sM))) (fun r5=>
 ab true fun v32=>
 ck (!v32)<|
 ab (r5.1 != (0:Int)) fun v33=>
 cn v32<|
 ab (v32||v33) fun Cb=>
 ay Cb (
 some (false,())) (
 ao (sR eE) fun y35=>
 none)))
abbrev Vr:Type:=(List (Bool×Int×Int×cH×Int×Int))×(List (Bool×Int×Int×cH×Int×Int))×Int×Int×Unit
abbrev zdk:Type:=Unit⊕(Bool×Unit)
def Vs(a' b:List (Bool×Int×Int×cH×Int×Int))(t12 t13:Int):Option (Vr⊕zdk):=
 ay (decide (t13<t12)) (
 aj ((0:Int)<=t13/\t13<(↑a'.length:Int))<|
 ab ((Option.rec (false,(0:Int),(0:Int),cJ,(0:Int),(0:Int)) (fun val=>val) a'[t13.toNat]?)) fun (v1:Bool×Int×Int×cH×Int×Int)=>
 aj ((0:Int)<=t13/\t13<(↑b.length:Int))<|
 ab ((Option.rec (false,(0:Int),(0:Int),cJ,(0:Int),(0:Int)) (fun val=>val) b[t13.toNat]?)) fun (v2:Bool×Int×Int×cH×Int×Int)=>
 ab (!(v1.1==v2.1&&(v1.2.1==v2.2.1&&(v1.2.2.1==v2.2.2.1&&(v1.2.2.2.1.1==v2.2.2.2.1.1&&(v1.2.2.2.1.2.1==v2.2.2.2.1.2.1&&(v1.2.2.2.1.2.2==v2.2.2.2.1.2.2))&&(v1.2.2.2.2.1==v2.2.2.2.2.1&&v1.2.2.2.2.2==v2.2.2.2.2.2)))))) fun v3=>
 ay v3 (
 some (.inr (.inr (false,())))) (
 ab (IntKind.i64.wrap (t13+(1:Int))) fun v4=>
 some (.inl (a',b,t12,v4,())))) (
 some (.inr (.inl ())))
def Vt(s:Vr):Option zdk:=ct (fun s:Vr=>Vs s.1 s.2.1 s.2.2.1 s.2.2.2.1) s
def FK(a' b:List (Bool×Int×Int×cH×Int×Int)):Option (Bool×Unit):=
 ab ((↑a'.length:Int) != (↑b.length:Int)) fun v0=>
 ay v0 (
 some (false,())) (
 ao (Vt (a',b,(↑a'.length:Int),(0:Int),())) fun y5=>
 cC y5 (fun t6=>
 some (true,())) (fun r7=>
 some r7))
def Vu(l:((List (List Int))×(List (Int×List Int))×Int×Int×Bool×Int)×Int×Int×Int×(List (List Int))×Bool):Option (Int×Unit):=
 some (l.2.2.1,())
def lG(x:bD×(((List (List Int))×(List (Int×List Int))×Int×Int×Bool×Int)×Int×Int×Int×(List (List Int))×Bool)×Int×Int×(List aX)×(List aH)×(List (Int×List aL))×(List aM)×List (Int×Int×Int×Int)):Option (Int×Unit):=
 ao (Vu x.2.1) fun y0=>
 some (y0.1,())
abbrev Vv:Type:=Int×(List cw)×Int×Int×bD×Int×Int×Bool×Int×Int×Int×Int×Int×Int×Int×Int×Int×Int×Int×Int×(List aX)×(List aH)×(List (Int×List aL))×(List aM)×(List (Int×Int×Int×Int))×(Int×Int×(List aX)×(List aH)×(List (Int×List aL))×(List aM)×List (Int×Int×Int×Int))×(List (List Int))×(List (Int×List Int))×Int×Int×Int×Bool×(List (List Int))×Unit
abbrev zdl:Type:=Unit⊕(Bool×Unit)
def KO(every:Int)(t42:List cw)(t43 t44:Int)(c:Int×Int×Int×Int×Int×Int×Int×Int×Int)(fM fN:Int)(fm:Bool)(fX sS sT sU sV sW sX sY sZ s0 s6 s7:Int)(s8:List aX)(s9:List aH)(ta:List (Int×List aL))(tc:List aM)(td:List (Int×Int×Int×Int))(s':Int×Int×(List aX)×(List aH)×(List (Int×List aL))×(List aM)×List (Int×Int×Int×Int))(ui:List (List Int))(FH:List (Int×List Int))(zdm zdn zdo:Int)(zdp:Bool)(FI:List (List Int)):Option (Vv⊕zdl):=
 ay (decide (t44<t43)) (
 aj ((0:Int)<=t44/\t44<(↑t42.length:Int))<|
 ab ((Option.rec jh (fun val=>val) t42[t44.toNat]?)) fun (v10:Int×aX×(Int×Int)×Int×cH×Int)=>
 ao (vF c s' v10) fun bY=>
 ao (sN v10) fun mR=>
 ao (yR mR.1) fun dR=>
 ay (!dR.2.1) (
 ao (sQ v10 sS sT sU sV sW sX sY sZ s0 s6 s7 s8 s9 ta tc td zdm zdn zdo zdp fM fN fm fX ui FH FI) fun av=>
 ab (av.2.1 != (12:Int)) fun ic=>
 ck (!ic)<|
 ck (!ic)<|
 bU (!ic) (FK av.1 ([])) (false,()) fun ku=>
 ck (!ic)<|
 cn ic<|
 ab (ic||!ku.1) fun v17=>
 ay v17 (
 some (.inr (.inr (false,())))) (
 ao ((
 some ())) fun cA=>
 ao (lF (((q8 av).2.2.2.1,(ax av).1,(ax av).2.1,(ax av).2.2.1,(ax av).2.2.2.1,(aA av).1,(aA av).2.1)) s') fun cZ=>
 ck (!!cZ.1)<|
 bU (!!cZ.1) (qo (((av.2.2.1,av.2.2.2.1,av.2.2.2.2.1,av.2.2.2.2.2.1,(q4 av).2.2.1,(q4 av).2.2.2.1,(q8 av).1,(q8 av).2.1,(q8 av).2.2.1),(((aJ av).2.2.1,(eD av).1,(aG av).2.2.1,(aG av).2.2.2.1,(aJ av).1,(aJ av).2.1),(aA av).2.2.1,(aA av).2.2.2.1,(aG av).1,(aJ av).2.2.2.1,(aG av).2.1),(q8 av).2.2.2.1,(ax av).1,(ax av).2.1,(ax av).2.2.1,(ax av).2.2.2.1,(aA av).1,(aA av).2.1))) (false,()) fun y20=>
 cn (!cZ.1)<|
 ab (!cZ.1||y20.1) fun v21=>
 ck (!v21)<|
 ck (!v21)<|
 ck (!v21)<|
 ck (!v21)<|
 bU (!v21) (uj (((av.2.2.1,av.2.2.2.1,av.2.2.2.2.1,av.2.2.2.2.2.1,(q4 av).2.2.1,(q4 av).2.2.2.1,(q8 av).1,(q8 av).2.1,(q8 av).2.2.1),(((aJ av).2.2.1,(eD av).1,(aG av).2.2.1,(aG av).2.2.2.1,(aJ av).1,(aJ av).2.1),(aA av).2.2.1,(aA av).2.2.2.1,(aG av).1,(aJ av).2.2.2.1,(aG av).2.1),(q8 av).2.2.2.1,(ax av).1,(ax av).2.1,(ax av).2.2.1,(ax av).2.2.2.1,(aA av).1,(aA av).2.1)) v10.2.1.1) ((0:Int),()) fun y22=>
 ck (!v21)<|
 ck (!v21)<|
 ck (!v21)<|
 ck (!v21)<|
 ck (!v21)<|
 bU (!v21) (rv c s' v10.2.1.1) ((0:Int),()) fun y23=>
 ck (!v21)<|
 ck (!v21)<|
 ab (y22.1 != y23.1) fun v24=>
 cn v21<|
 ab (v21||v24) fun v25=>
 ay v25 (
 some (.inr (.inr (false,())))) (
 aj (¬(30:Int)=(0:Int))<|
 ab (every.tmod (30:Int)) fun v26=>
 ab (IntKind.i64.wrap v26) fun uh=>
 ab (IntKind.i64.wrap ((2:Int)+uh)) fun v28=>
 aj (¬v28=(0:Int))<|
 ab (t44.tmod v28) fun kX=>
 ab (kX==(1:Int)) fun v30=>
 ay v30 (
 ao (lG (((av.2.2.1,av.2.2.2.1,av.2.2.2.2.1,av.2.2.2.2.2.1,(q4 av).2.2.1,(q4 av).2.2.2.1,(q8 av).1,(q8 av).2.1,(q8 av).2.2.1),(((aJ av).2.2.1,(eD av).1,(aG av).2.2.1,(aG av).2.2.2.1,(aJ av).1,(aJ av).2.1),(aA av).2.2.1,(aA av).2.2.2.1,(aG av).1,(aJ av).2.2.2.1,(aG av).2.1),(q8 av).2.2.2.1,(ax av).1,(ax av).2.1,(ax av).2.2.1,(ax av).2.2.2.1,(aA av).1,(aA av).2.1))) fun S8=>
 ao (xk av.2.2.1 av.2.2.2.1 av.2.2.2.2.1 av.2.2.2.2.2.1 (q4 av).2.2.1 (q4 av).2.2.2.1 (q8 av).1 (q8 av).2.1 (q8 av).2.2.1 (q8 av).2.2.2.1 (ax av).1 (ax av).2.1 (ax av).2.2.1 (ax av).2.2.2.1 (aA av).1 (aA av).2.1 (aA av).2.2.1 (aA av).2.2.2.1 (aG av).1 (aG av).2.1 (aG av).2.2.1 (aG av).2.2.2.1 (aJ av).1 (aJ av).2.1 (aJ av).2.2.1 (eD av).1 (aJ av).2.2.2.1) fun bG=>
 ab (bG.1 != (0:Int)) fun v33=>
 ck (!v33)<|
 bU (!v33) (lG (((bG.2.1,bG.2.2.1,bG.2.2.2.1,bG.2.2.2.2.1,bG.2.2.2.2.2.1,(q4 bG).2.2.1,(q4 bG).2.2.2.1,(q8 bG).1,(q8 bG).2.1),(((aJ bG).2.1,(aJ bG).2.2.2.1,(aG bG).2.1,(aG bG).2.2.1,(aG bG).2.2.2.1,(aJ bG).1),(aA bG).2.1,(aA bG).2.2.1,(aA bG).2.2.2.1,(aJ bG).2.2.1,(aG bG).1),(q8 bG).2.2.1,(q8 bG).2.2.2.1,(ax bG).1,(ax bG).2.1,(ax bG).2.2.1,(ax bG).2.2.2.1,(aA bG).1))) ((0:Int),()) fun qk=>
 ck (!v33)<|
 ab (IntKind.i64.wrap (S8.1+(1:Int))) fun v35=>
 ck (!v33)<|
 ck (!v33)<|
 ab (qk.1 != v35) fun Vl=>
 cn v33<|
 ab (v33||Vl) fun v37=>
 ck (!v37)<|
 bU (!v37) (ju (((bG.2.1,bG.2.2.1,bG.2.2.2.1,bG.2.2.2.2.1,bG.2.2.2.2.2.1,(q4 bG).2.2.1,(q4 bG).2.2.2.1,(q8 bG).1,(q8 bG).2.1),(((aJ bG).2.1,(aJ bG).2.2.2.1,(aG bG).2.1,(aG bG).2.2.1,(aG bG).2.2.2.1,(aJ bG).1),(aA bG).2.1,(aA bG).2.2.1,(aA bG).2.2.2.1,(aJ bG).2.2.1,(aG bG).1),(q8 bG).2.2.1,(q8 bG).2.2.2.1,(ax bG).1,(ax bG).2.1,(ax bG).2.2.1,(ax bG).2.2.2.1,(aA bG).1))) ((0:Int),()) fun te=>
 ck (!v37)<|
 ab (te.1 != (0:Int)) fun v39=>
 cn v37<|
 ab (v37||v39) fun v40=>
 ay v40 (
 some (.inr (.inr (false,())))) (
 aj (¬(5:Int)=(0:Int))<|
 ab (t44.tmod (5:Int)) fun v41=>
 ab (v41==(4:Int)) fun iX=>
 ay iX (
 ao (iv c (aG bG).2.1 (aG bG).2.2.1 (aG bG).2.2.2.1 (aJ bG).1 (aJ bG).2.1 (aJ bG).2.2.2.1) fun OO=>
 cC OO (fun cB=>
 ab false fun v46=>
 ck (!v46)<|
 ab (cB.1 != (0:Int)) fun xi=>
 cn v46<|
 ab (v46||xi) fun ie=>
 ck (!ie)<|
 bU (!ie) ((
 some ())) () fun y49=>
 ck (!ie)<|
 ck (!ie)<|
 bU (!ie) (lF (((ax cB).2.2.2.1,(aA cB).1,(aA cB).2.1,(aA cB).2.2.1,(aA cB).2.2.2.1,(aG cB).1,(aG cB).2.1)) s') (false,()) fun y50=>
 ck (!ie)<|
 cn ie<|
 ab (ie||!y50.1) fun v51=>
 ck (!v51)<|
 bU (!v51) (ju ((((q4 cB).2.2.1,(q4 cB).2.2.2.1,(q8 cB).1,(q8 cB).2.1,(q8 cB).2.2.1,(q8 cB).2.2.2.1,(ax cB).1,(ax cB).2.1,(ax cB).2.2.1),((cB.2.2.2.2.2.1,(aG cB).2.2.1,cB.2.1,cB.2.2.1,cB.2.2.2.1,cB.2.2.2.2.1),(aG cB).2.2.2.1,(aJ cB).1,(aJ cB).2.1,(aJ cB).2.2.2.1,(aJ cB).2.2.1),(ax cB).2.2.2.1,(aA cB).1,(aA cB).2.1,(aA cB).2.2.1,(aA cB).2.2.2.1,(aG cB).1,(aG cB).2.1))) ((0:Int),()) fun FE=>
 ck (!v51)<|
 bU (!v51) (ju (((bG.2.1,bG.2.2.1,bG.2.2.2.1,bG.2.2.2.2.1,bG.2.2.2.2.2.1,(q4 bG).2.2.1,(q4 bG).2.2.2.1,(q8 bG).1,(q8 bG).2.1),((cB.2.2.2.2.2.1,(aG cB).2.2.1,cB.2.1,cB.2.2.1,cB.2.2.2.1,cB.2.2.2.2.1),(aA bG).2.1,(aA bG).2.2.1,(aA bG).2.2.2.1,(aJ bG).2.2.1,(aG bG).1),(q8 bG).2.2.1,(q8 bG).2.2.2.1,(ax bG).1,(ax bG).2.1,(ax bG).2.2.1,(ax bG).2.2.2.1,(aA bG).1))) ((0:Int),()) fun y53=>
 ck (!v51)<|
 ck (!v51)<|
 ab (FE.1 != y53.1) fun v54=>
 cn v51<|
 ab (v51||v54) fun v55=>
 ck (!v55)<|
 bU (!v55) (lG ((((q4 cB).2.2.1,(q4 cB).2.2.2.1,(q8 cB).1,(q8 cB).2.1,(q8 cB).2.2.1,(q8 cB).2.2.2.1,(ax cB).1,(ax cB).2.1,(ax cB).2.2.1),((cB.2.2.2.2.2.1,(aG cB).2.2.1,cB.2.1,cB.2.2.1,cB.2.2.2.1,cB.2.2.2.2.1),(aG cB).2.2.2.1,(aJ cB).1,(aJ cB).2.1,(aJ cB).2.2.2.1,(aJ cB).2.2.1),(ax cB).2.2.2.1,(aA cB).1,(aA cB).2.1,(aA cB).2.2.1,(aA cB).2.2.2.1,(aG cB).1,(aG cB).2.1))) ((0:Int),()) fun y56=>
 ck (!v55)<|
 bU (!v55) (lG (((bG.2.1,bG.2.2.1,bG.2.2.2.1,bG.2.2.2.2.1,bG.2.2.2.2.2.1,(q4 bG).2.2.1,(q4 bG).2.2.2.1,(q8 bG).1,(q8 bG).2.1),((cB.2.2.2.2.2.1,(aG cB).2.2.1,cB.2.1,cB.2.2.1,cB.2.2.2.1,cB.2.2.2.2.1),(aA bG).2.1,(aA bG).2.2.1,(aA bG).2.2.2.1,(aJ bG).2.2.1,(aG bG).1),(q8 bG).2.2.1,(q8 bG).2.2.2.1,(ax bG).1,(ax bG).2.1,(ax bG).2.2.1,(ax bG).2.2.2.1,(aA bG).1))) ((0:Int),()) fun y57=>
 ck (!v55)<|
 ck (!v55)<|
 ab (y56.1 != y57.1) fun v58=>
 cn v55<|
 ab (v55||v58) fun v59=>
 ay v59 (
 some (.inr (.inr (false,())))) (
 ab (IntKind.i64.wrap (t44+(1:Int))) fun v60=>
 some (.inl (every,t42,t43,v60,c,cB.2.1,cB.2.2.1,cB.2.2.2.1,cB.2.2.2.2.1,(q4 cB).2.2.1,(q4 cB).2.2.2.1,(q8 cB).1,(q8 cB).2.1,(q8 cB).2.2.1,(q8 cB).2.2.2.1,(ax cB).1,(ax cB).2.1,(ax cB).2.2.1,(ax cB).2.2.2.1,(aA cB).1,(aA cB).2.1,(aA cB).2.2.1,(aA cB).2.2.2.1,(aG cB).1,(aG cB).2.1,s',cB.2.2.2.2.2.1,(aG cB).2.2.1,(aG cB).2.2.2.1,(aJ cB).1,(aJ cB).2.1,(aJ cB).2.2.1,(aJ cB).2.2.2.1,())))) (fun r45=>
 ab true fun Vw=>
 ck (!Vw)<|
 ab (r45.1 != (0:Int)) fun v62=>
 cn Vw<|
 ab (Vw||v62) fun v63=>
 none)) (
 ab (IntKind.i64.wrap (t44+(1:Int))) fun v64=>
 some (.inl (every,t42,t43,v64,c,(aG bG).2.1,(aG bG).2.2.1,(aG bG).2.2.2.1,(aJ bG).1,bG.2.1,bG.2.2.1,bG.2.2.2.1,bG.2.2.2.2.1,bG.2.2.2.2.2.1,(q4 bG).2.2.1,(q4 bG).2.2.2.1,(q8 bG).1,(q8 bG).2.1,(q8 bG).2.2.1,(q8 bG).2.2.2.1,(ax bG).1,(ax bG).2.1,(ax bG).2.2.1,(ax bG).2.2.2.1,(aA bG).1,s',(aJ bG).2.1,(aJ bG).2.2.2.1,(aA bG).2.1,(aA bG).2.2.1,(aA bG).2.2.2.1,(aG bG).1,(aJ bG).2.2.1,()))))) (
 aj (¬(5:Int)=(0:Int))<|
 ab (t44.tmod (5:Int)) fun v65=>
 ab (v65==(4:Int)) fun v66=>
 ay v66 (
 ao (iv c (aG av).2.2.1 (aG av).2.2.2.1 (aJ av).1 (aJ av).2.1 (aJ av).2.2.1 (eD av).1) fun y67=>
 cC y67 (fun t68=>
 ab false fun v70=>
 ck (!v70)<|
 ab (t68.1 != (0:Int)) fun v71=>
 cn v70<|
 ab (v70||v71) fun v72=>
 ck (!v72)<|
 bU (!v72) ((
 some ())) () fun y73=>
 ck (!v72)<|
 ck (!v72)<|
 bU (!v72) (lF (((ax t68).2.2.2.1,(aA t68).1,(aA t68).2.1,(aA t68).2.2.1,(aA t68).2.2.2.1,(aG t68).1,(aG t68).2.1)) s') (false,()) fun y74=>
 ck (!v72)<|
 cn v72<|
 ab (v72||!y74.1) fun v75=>
 ck (!v75)<|
 bU (!v75) (ju ((((q4 t68).2.2.1,(q4 t68).2.2.2.1,(q8 t68).1,(q8 t68).2.1,(q8 t68).2.2.1,(q8 t68).2.2.2.1,(ax t68).1,(ax t68).2.1,(ax t68).2.2.1),((t68.2.2.2.2.2.1,(aG t68).2.2.1,t68.2.1,t68.2.2.1,t68.2.2.2.1,t68.2.2.2.2.1),(aG t68).2.2.2.1,(aJ t68).1,(aJ t68).2.1,(aJ t68).2.2.2.1,(aJ t68).2.2.1),(ax t68).2.2.2.1,(aA t68).1,(aA t68).2.1,(aA t68).2.2.1,(aA t68).2.2.2.1,(aG t68).1,(aG t68).2.1))) ((0:Int),()) fun y76=>
 ck (!v75)<|
 bU (!v75) (ju (((av.2.2.1,av.2.2.2.1,av.2.2.2.2.1,av.2.2.2.2.2.1,(q4 av).2.2.1,(q4 av).2.2.2.1,(q8 av).1,(q8 av).2.1,(q8 av).2.2.1),((t68.2.2.2.2.2.1,(aG t68).2.2.1,t68.2.1,t68.2.2.1,t68.2.2.2.1,t68.2.2.2.2.1),(aA av).2.2.1,(aA av).2.2.2.1,(aG av).1,(aJ av).2.2.2.1,(aG av).2.1),(q8 av).2.2.2.1,(ax av).1,(ax av).2.1,(ax av).2.2.1,(ax av).2.2.2.1,(aA av).1,(aA av).2.1))) ((0:Int),()) fun y77=>
 ck (!v75)<|
 ck (!v75)<|
 ab (y76.1 != y77.1) fun v78=>
 cn v75<|
 ab (v75||v78) fun v79=>
 ck (!v79)<|
 bU (!v79) (lG ((((q4 t68).2.2.1,(q4 t68).2.2.2.1,(q8 t68).1,(q8 t68).2.1,(q8 t68).2.2.1,(q8 t68).2.2.2.1,(ax t68).1,(ax t68).2.1,(ax t68).2.2.1),((t68.2.2.2.2.2.1,(aG t68).2.2.1,t68.2.1,t68.2.2.1,t68.2.2.2.1,t68.2.2.2.2.1),(aG t68).2.2.2.1,(aJ t68).1,(aJ t68).2.1,(aJ t68).2.2.2.1,(aJ t68).2.2.1),(ax t68).2.2.2.1,(aA t68).1,(aA t68).2.1,(aA t68).2.2.1,(aA t68).2.2.2.1,(aG t68).1,(aG t68).2.1))) ((0:Int),()) fun y80=>
 ck (!v79)<|
 bU (!v79) (lG (((av.2.2.1,av.2.2.2.1,av.2.2.2.2.1,av.2.2.2.2.2.1,(q4 av).2.2.1,(q4 av).2.2.2.1,(q8 av).1,(q8 av).2.1,(q8 av).2.2.1),((t68.2.2.2.2.2.1,(aG t68).2.2.1,t68.2.1,t68.2.2.1,t68.2.2.2.1,t68.2.2.2.2.1),(aA av).2.2.1,(aA av).2.2.2.1,(aG av).1,(aJ av).2.2.2.1,(aG av).2.1),(q8 av).2.2.2.1,(ax av).1,(ax av).2.1,(ax av).2.2.1,(ax av).2.2.2.1,(aA av).1,(aA av).2.1))) ((0:Int),()) fun y81=>
 ck (!v79)<|
 ck (!v79)<|
 ab (y80.1 != y81.1) fun v82=>
 cn v79<|
 ab (v79||v82) fun v83=>
 ay v83 (
 some (.inr (.inr (false,())))) (
 ab (IntKind.i64.wrap (t44+(1:Int))) fun v84=>
 some (.inl (every,t42,t43,v84,c,t68.2.1,t68.2.2.1,t68.2.2.2.1,t68.2.2.2.2.1,(q4 t68).2.2.1,(q4 t68).2.2.2.1,(q8 t68).1,(q8 t68).2.1,(q8 t68).2.2.1,(q8 t68).2.2.2.1,(ax t68).1,(ax t68).2.1,(ax t68).2.2.1,(ax t68).2.2.2.1,(aA t68).1,(aA t68).2.1,(aA t68).2.2.1,(aA t68).2.2.2.1,(aG t68).1,(aG t68).2.1,s',t68.2.2.2.2.2.1,(aG t68).2.2.1,(aG t68).2.2.2.1,(aJ t68).1,(aJ t68).2.1,(aJ t68).2.2.1,(aJ t68).2.2.2.1,())))) (fun r69=>
 ab true fun v85=>
 ck (!v85)<|
 ab (r69.1 != (0:Int)) fun v86=>
 cn v85<|
 ab (v85||v86) fun v87=>
 none)) (
 ab (IntKind.i64.wrap (t44+(1:Int))) fun v88=>
 some (.inl (every,t42,t43,v88,c,(aG av).2.2.1,(aG av).2.2.2.1,(aJ av).1,(aJ av).2.1,av.2.2.1,av.2.2.2.1,av.2.2.2.2.1,av.2.2.2.2.2.1,(q4 av).2.2.1,(q4 av).2.2.2.1,(q8 av).1,(q8 av).2.1,(q8 av).2.2.1,(q8 av).2.2.2.1,(ax av).1,(ax av).2.1,(ax av).2.2.1,(ax av).2.2.2.1,(aA av).1,(aA av).2.1,s',(aJ av).2.2.1,(eD av).1,(aA av).2.2.1,(aA av).2.2.2.1,(aG av).1,(aG av).2.1,(aJ av).2.2.2.1,()))))))) (
 ao (sQ v10 sS sT sU sV sW sX sY sZ s0 s6 s7 s8 s9 ta tc td zdm zdn zdo zdp fM fN fm fX ui FH FI) fun bq=>
 ab (bq.2.1 != bY.2.1) fun FL=>
 ck (!FL)<|
 ck (!FL)<|
 bU (!FL) (FK bq.1 bY.2.2.1) (false,()) fun y91=>
 ck (!FL)<|
 cn FL<|
 ab (FL||!y91.1) fun v92=>
 ay v92 (
 some (.inr (.inr (false,())))) (
 ao ((
 some ())) fun y93=>
 ao (lF (((q8 bq).2.2.2.1,(ax bq).1,(ax bq).2.1,(ax bq).2.2.1,(ax bq).2.2.2.1,(aA bq).1,(aA bq).2.1)) bY.1) fun OP=>
 ck (!!OP.1)<|
 bU (!!OP.1) (qo (((bq.2.2.1,bq.2.2.2.1,bq.2.2.2.2.1,bq.2.2.2.2.2.1,(q4 bq).2.2.1,(q4 bq).2.2.2.1,(q8 bq).1,(q8 bq).2.1,(q8 bq).2.2.1),(((aJ bq).2.2.1,(eD bq).1,(aG bq).2.2.1,(aG bq).2.2.2.1,(aJ bq).1,(aJ bq).2.1),(aA bq).2.2.1,(aA bq).2.2.2.1,(aG bq).1,(aJ bq).2.2.2.1,(aG bq).2.1),(q8 bq).2.2.2.1,(ax bq).1,(ax bq).2.1,(ax bq).2.2.1,(ax bq).2.2.2.1,(aA bq).1,(aA bq).2.1))) (false,()) fun y95=>
 cn (!OP.1)<|
 ab (!OP.1||y95.1) fun pD=>
 ck (!pD)<|
 ck (!pD)<|
 ck (!pD)<|
 ck (!pD)<|
 bU (!pD) (uj (((bq.2.2.1,bq.2.2.2.1,bq.2.2.2.2.1,bq.2.2.2.2.2.1,(q4 bq).2.2.1,(q4 bq).2.2.2.1,(q8 bq).1,(q8 bq).2.1,(q8 bq).2.2.1),(((aJ bq).2.2.1,(eD bq).1,(aG bq).2.2.1,(aG bq).2.2.2.1,(aJ bq).1,(aJ bq).2.1),(aA bq).2.2.1,(aA bq).2.2.2.1,(aG bq).1,(aJ bq).2.2.2.1,(aG bq).2.1),(q8 bq).2.2.2.1,(ax bq).1,(ax bq).2.1,(ax bq).2.2.1,(ax bq).2.2.2.1,(aA bq).1,(aA bq).2.1)) v10.2.1.1) ((0:Int),()) fun y97=>
 ck (!pD)<|
 ck (!pD)<|
 ck (!pD)<|
 ck (!pD)<|
 ck (!pD)<|
 bU (!pD) (rv c bY.1 v10.2.1.1) ((0:Int),()) fun y98=>
 ck (!pD)<|
 ck (!pD)<|
 ab (y97.1 != y98.1) fun v99=>
 cn pD<|
 ab (pD||v99) fun zqT=>
 ay zqT (
 some (.inr (.inr (false,())))) (
 aj (¬(30:Int)=(0:Int))<|
 ab (every.tmod (30:Int)) fun zqU=>
 ab (IntKind.i64.wrap zqU) fun zqV=>
 ab (IntKind.i64.wrap ((2:Int)+zqV)) fun zdq=>
 aj (¬zdq=(0:Int))<|
 ab (t44.tmod zdq) fun zqW=>
 ab (zqW==(1:Int)) fun v105=>
 ay v105 (
 ao (lG (((bq.2.2.1,bq.2.2.2.1,bq.2.2.2.2.1,bq.2.2.2.2.2.1,(q4 bq).2.2.1,(q4 bq).2.2.2.1,(q8 bq).1,(q8 bq).2.1,(q8 bq).2.2.1),(((aJ bq).2.2.1,(eD bq).1,(aG bq).2.2.1,(aG bq).2.2.2.1,(aJ bq).1,(aJ bq).2.1),(aA bq).2.2.1,(aA bq).2.2.2.1,(aG bq).1,(aJ bq).2.2.2.1,(aG bq).2.1),(q8 bq).2.2.2.1,(ax bq).1,(ax bq).2.1,(ax bq).2.2.1,(ax bq).2.2.2.1,(aA bq).1,(aA bq).2.1))) fun zqX=>
 ao (xk bq.2.2.1 bq.2.2.2.1 bq.2.2.2.2.1 bq.2.2.2.2.2.1 (q4 bq).2.2.1 (q4 bq).2.2.2.1 (q8 bq).1 (q8 bq).2.1 (q8 bq).2.2.1 (q8 bq).2.2.2.1 (ax bq).1 (ax bq).2.1 (ax bq).2.2.1 (ax bq).2.2.2.1 (aA bq).1 (aA bq).2.1 (aA bq).2.2.1 (aA bq).2.2.2.1 (aG bq).1 (aG bq).2.1 (aG bq).2.2.1 (aG bq).2.2.2.1 (aJ bq).1 (aJ bq).2.1 (aJ bq).2.2.1 (eD bq).1 (aJ bq).2.2.2.1) fun bP=>
 ab (bP.1 != (0:Int)) fun Cc=>
 ck (!Cc)<|
 bU (!Cc) (lG (((bP.2.1,bP.2.2.1,bP.2.2.2.1,bP.2.2.2.2.1,bP.2.2.2.2.2.1,(q4 bP).2.2.1,(q4 bP).2.2.2.1,(q8 bP).1,(q8 bP).2.1),(((aJ bP).2.1,(aJ bP).2.2.2.1,(aG bP).2.1,(aG bP).2.2.1,(aG bP).2.2.2.1,(aJ bP).1),(aA bP).2.1,(aA bP).2.2.1,(aA bP).2.2.2.1,(aJ bP).2.2.1,(aG bP).1),(q8 bP).2.2.1,(q8 bP).2.2.2.1,(ax bP).1,(ax bP).2.1,(ax bP).2.2.1,(ax bP).2.2.2.1,(aA bP).1))) ((0:Int),()) fun zqY=>
 ck (!Cc)<|
 ab (IntKind.i64.wrap (zqX.1+(1:Int))) fun zqZ=>
 ck (!Cc)<|
 ck (!Cc)<|
 ab (zqY.1 != zqZ) fun zq0=>
 cn Cc<|
 ab (Cc||zq0) fun KP=>
 ck (!KP)<|
 bU (!KP) (ju (((bP.2.1,bP.2.2.1,bP.2.2.2.1,bP.2.2.2.2.1,bP.2.2.2.2.2.1,(q4 bP).2.2.1,(q4 bP).2.2.2.1,(q8 bP).1,(q8 bP).2.1),(((aJ bP).2.1,(aJ bP).2.2.2.1,(aG bP).2.1,(aG bP).2.2.1,(aG bP).2.2.2.1,(aJ bP).1),(aA bP).2.1,(aA bP).2.2.1,(aA bP).2.2.2.1,(aJ bP).2.2.1,(aG bP).1),(q8 bP).2.2.1,(q8 bP).2.2.2.1,(ax bP).1,(ax bP).2.1,(ax bP).2.2.1,(ax bP).2.2.2.1,(aA bP).1))) ((0:Int),()) fun zq1=>
 ck (!KP)<|
 ab (zq1.1 != (0:Int)) fun zq2=>
 cn KP<|
 ab (KP||zq2) fun zq3=>
 ay zq3 (
 some (.inr (.inr (false,())))) (
 aj (¬(5:Int)=(0:Int))<|
 ab (t44.tmod (5:Int)) fun zq4=>
 ab (zq4==(4:Int)) fun v117=>
 ay v117 (
 ao (iv c (aG bP).2.1 (aG bP).2.2.1 (aG bP).2.2.2.1 (aJ bP).1 (aJ bP).2.1 (aJ bP).2.2.2.1) fun zq5=>
 cC zq5 (fun t119=>
 ab false fun Vx=>
 ck (!Vx)<|
 ab (t119.1 != (0:Int)) fun zq6=>
 cn Vx<|
 ab (Vx||zq6) fun zj=>
 ck (!zj)<|
 bU (!zj) ((
 some ())) () fun zGt=>
 ck (!zj)<|
 ck (!zj)<|
 bU (!zj) (lF (((ax t119).2.2.2.1,(aA t119).1,(aA t119).2.1,(aA t119).2.2.1,(aA t119).2.2.2.1,(aG t119).1,(aG t119).2.1)) bY.1) (false,()) fun zq7=>
 ck (!zj)<|
 cn zj<|
 ab (zj||!zq7.1) fun zk=>
 ck (!zk)<|
 bU (!zk) (ju ((((q4 t119).2.2.1,(q4 t119).2.2.2.1,(q8 t119).1,(q8 t119).2.1,(q8 t119).2.2.1,(q8 t119).2.2.2.1,(ax t119).1,(ax t119).2.1,(ax t119).2.2.1),((t119.2.2.2.2.2.1,(aG t119).2.2.1,t119.2.1,t119.2.2.1,t119.2.2.2.1,t119.2.2.2.2.1),(aG t119).2.2.2.1,(aJ t119).1,(aJ t119).2.1,(aJ t119).2.2.2.1,(aJ t119).2.2.1),(ax t119).2.2.2.1,(aA t119).1,(aA t119).2.1,(aA t119).2.2.1,(aA t119).2.2.2.1,(aG t119).1,(aG t119).2.1))) ((0:Int),()) fun zq8=>
 ck (!zk)<|
 bU (!zk) (ju (((bP.2.1,bP.2.2.1,bP.2.2.2.1,bP.2.2.2.2.1,bP.2.2.2.2.2.1,(q4 bP).2.2.1,(q4 bP).2.2.2.1,(q8 bP).1,(q8 bP).2.1),((t119.2.2.2.2.2.1,(aG t119).2.2.1,t119.2.1,t119.2.2.1,t119.2.2.2.1,t119.2.2.2.2.1),(aA bP).2.1,(aA bP).2.2.1,(aA bP).2.2.2.1,(aJ bP).2.2.1,(aG bP).1),(q8 bP).2.2.1,(q8 bP).2.2.2.1,(ax bP).1,(ax bP).2.1,(ax bP).2.2.1,(ax bP).2.2.2.1,(aA bP).1))) ((0:Int),()) fun zq9=>
 ck (!zk)<|
 ck (!zk)<|
 ab (zq8.1 != zq9.1) fun zra=>
 cn zk<|
 ab (zk||zra) fun v130=>
 ck (!v130)<|
 bU (!v130) (lG ((((q4 t119).2.2.1,(q4 t119).2.2.2.1,(q8 t119).1,(q8 t119).2.1,(q8 t119).2.2.1,(q8 t119).2.2.2.1,(ax t119).1,(ax t119).2.1,(ax t119).2.2.1),((t119.2.2.2.2.2.1,(aG t119).2.2.1,t119.2.1,t119.2.2.1,t119.2.2.2.1,t119.2.2.2.2.1),(aG t119).2.2.2.1,(aJ t119).1,(aJ t119).2.1,(aJ t119).2.2.2.1,(aJ t119).2.2.1),(ax t119).2.2.2.1,(aA t119).1,(aA t119).2.1,(aA t119).2.2.1,(aA t119).2.2.2.1,(aG t119).1,(aG t119).2.1))) ((0:Int),()) fun zrb=>
 ck (!v130)<|
 bU (!v130) (lG (((bP.2.1,bP.2.2.1,bP.2.2.2.1,bP.2.2.2.2.1,bP.2.2.2.2.2.1,(q4 bP).2.2.1,(q4 bP).2.2.2.1,(q8 bP).1,(q8 bP).2.1),((t119.2.2.2.2.2.1,(aG t119).2.2.1,t119.2.1,t119.2.2.1,t119.2.2.2.1,t119.2.2.2.2.1),(aA bP).2.1,(aA bP).2.2.1,(aA bP).2.2.2.1,(aJ bP).2.2.1,(aG bP).1),(q8 bP).2.2.1,(q8 bP).2.2.2.1,(ax bP).1,(ax bP).2.1,(ax bP).2.2.1,(ax bP).2.2.2.1,(aA bP).1))) ((0:Int),()) fun zrc=>
 ck (!v130)<|
 ck (!v130)<|
 ab (zrb.1 != zrc.1) fun zrd=>
 cn v130<|
 ab (v130||zrd) fun zre=>
 ay zre (
 some (.inr (.inr (false,())))) (
 ab (IntKind.i64.wrap (t44+(1:Int))) fun zrf=>
 some (.inl (every,t42,t43,zrf,c,t119.2.1,t119.2.2.1,t119.2.2.2.1,t119.2.2.2.2.1,(q4 t119).2.2.1,(q4 t119).2.2.2.1,(q8 t119).1,(q8 t119).2.1,(q8 t119).2.2.1,(q8 t119).2.2.2.1,(ax t119).1,(ax t119).2.1,(ax t119).2.2.1,(ax t119).2.2.2.1,(aA t119).1,(aA t119).2.1,(aA t119).2.2.1,(aA t119).2.2.2.1,(aG t119).1,(aG t119).2.1,bY.1,t119.2.2.2.2.2.1,(aG t119).2.2.1,(aG t119).2.2.2.1,(aJ t119).1,(aJ t119).2.1,(aJ t119).2.2.1,(aJ t119).2.2.2.1,())))) (fun zrg=>
 ab true fun Vy=>
 ck (!Vy)<|
 ab (zrg.1 != (0:Int)) fun zrh=>
 cn Vy<|
 ab (Vy||zrh) fun v138=>
 none)) (
 ab (IntKind.i64.wrap (t44+(1:Int))) fun v139=>
 some (.inl (every,t42,t43,v139,c,(aG bP).2.1,(aG bP).2.2.1,(aG bP).2.2.2.1,(aJ bP).1,bP.2.1,bP.2.2.1,bP.2.2.2.1,bP.2.2.2.2.1,bP.2.2.2.2.2.1,(q4 bP).2.2.1,(q4 bP).2.2.2.1,(q8 bP).1,(q8 bP).2.1,(q8 bP).2.2.1,(q8 bP).2.2.2.1,(ax bP).1,(ax bP).2.1,(ax bP).2.2.1,(ax bP).2.2.2.1,(aA bP).1,bY.1,(aJ bP).2.1,(aJ bP).2.2.2.1,(aA bP).2.1,(aA bP).2.2.1,(aA bP).2.2.2.1,(aG bP).1,(aJ bP).2.2.1,()))))) (
 aj (¬(5:Int)=(0:Int))<|
 ab (t44.tmod (5:Int)) fun zri=>
 ab (zri==(4:Int)) fun v141=>
 ay v141 (
 ao (iv c (aG bq).2.2.1 (aG bq).2.2.2.1 (aJ bq).1 (aJ bq).2.1 (aJ bq).2.2.1 (eD bq).1) fun zrj=>
 cC zrj (fun t143=>
 ab false fun v145=>
 ck (!v145)<|
 ab (t143.1 != (0:Int)) fun v146=>
 cn v145<|
 ab (v145||v146) fun zl=>
 ck (!zl)<|
 bU (!zl) ((
 some ())) () fun zGu=>
 ck (!zl)<|
 ck (!zl)<|
 bU (!zl) (lF (((ax t143).2.2.2.1,(aA t143).1,(aA t143).2.1,(aA t143).2.2.1,(aA t143).2.2.2.1,(aG t143).1,(aG t143).2.1)) bY.1) (false,()) fun zrk=>
 ck (!zl)<|
 cn zl<|
 ab (zl||!zrk.1) fun zm=>
 ck (!zm)<|
 bU (!zm) (ju ((((q4 t143).2.2.1,(q4 t143).2.2.2.1,(q8 t143).1,(q8 t143).2.1,(q8 t143).2.2.1,(q8 t143).2.2.2.1,(ax t143).1,(ax t143).2.1,(ax t143).2.2.1),((t143.2.2.2.2.2.1,(aG t143).2.2.1,t143.2.1,t143.2.2.1,t143.2.2.2.1,t143.2.2.2.2.1),(aG t143).2.2.2.1,(aJ t143).1,(aJ t143).2.1,(aJ t143).2.2.2.1,(aJ t143).2.2.1),(ax t143).2.2.2.1,(aA t143).1,(aA t143).2.1,(aA t143).2.2.1,(aA t143).2.2.2.1,(aG t143).1,(aG t143).2.1))) ((0:Int),()) fun zrl=>
 ck (!zm)<|
 bU (!zm) (ju (((bq.2.2.1,bq.2.2.2.1,bq.2.2.2.2.1,bq.2.2.2.2.2.1,(q4 bq).2.2.1,(q4 bq).2.2.2.1,(q8 bq).1,(q8 bq).2.1,(q8 bq).2.2.1),((t143.2.2.2.2.2.1,(aG t143).2.2.1,t143.2.1,t143.2.2.1,t143.2.2.2.1,t143.2.2.2.2.1),(aA bq).2.2.1,(aA bq).2.2.2.1,(aG bq).1,(aJ bq).2.2.2.1,(aG bq).2.1),(q8 bq).2.2.2.1,(ax bq).1,(ax bq).2.1,(ax bq).2.2.1,(ax bq).2.2.2.1,(aA bq).1,(aA bq).2.1))) ((0:Int),()) fun zrm=>
 ck (!zm)<|
 ck (!zm)<|
 ab (zrl.1 != zrm.1) fun zrn=>
 cn zm<|
 ab (zm||zrn) fun v154=>
 ck (!v154)<|
 bU (!v154) (lG ((((q4 t143).2.2.1,(q4 t143).2.2.2.1,(q8 t143).1,(q8 t143).2.1,(q8 t143).2.2.1,(q8 t143).2.2.2.1,(ax t143).1,(ax t143).2.1,(ax t143).2.2.1),((t143.2.2.2.2.2.1,(aG t143).2.2.1,t143.2.1,t143.2.2.1,t143.2.2.2.1,t143.2.2.2.2.1),(aG t143).2.2.2.1,(aJ t143).1,(aJ t143).2.1,(aJ t143).2.2.2.1,(aJ t143).2.2.1),(ax t143).2.2.2.1,(aA t143).1,(aA t143).2.1,(aA t143).2.2.1,(aA t143).2.2.2.1,(aG t143).1,(aG t143).2.1))) ((0:Int),()) fun zro=>
 ck (!v154)<|
 bU (!v154) (lG (((bq.2.2.1,bq.2.2.2.1,bq.2.2.2.2.1,bq.2.2.2.2.2.1,(q4 bq).2.2.1,(q4 bq).2.2.2.1,(q8 bq).1,(q8 bq).2.1,(q8 bq).2.2.1),((t143.2.2.2.2.2.1,(aG t143).2.2.1,t143.2.1,t143.2.2.1,t143.2.2.2.1,t143.2.2.2.2.1),(aA bq).2.2.1,(aA bq).2.2.2.1,(aG bq).1,(aJ bq).2.2.2.1,(aG bq).2.1),(q8 bq).2.2.2.1,(ax bq).1,(ax bq).2.1,(ax bq).2.2.1,(ax bq).2.2.2.1,(aA bq).1,(aA bq).2.1))) ((0:Int),()) fun zrp=>
 ck (!v154)<|
 ck (!v154)<|
 ab (zro.1 != zrp.1) fun v157=>
 cn v154<|
 ab (v154||v157) fun zrq=>
 ay zrq (
 some (.inr (.inr (false,())))) (
 ab (IntKind.i64.wrap (t44+(1:Int))) fun v159=>
 some (.inl (every,t42,t43,v159,c,t143.2.1,t143.2.2.1,t143.2.2.2.1,t143.2.2.2.2.1,(q4 t143).2.2.1,(q4 t143).2.2.2.1,(q8 t143).1,(q8 t143).2.1,(q8 t143).2.2.1,(q8 t143).2.2.2.1,(ax t143).1,(ax t143).2.1,(ax t143).2.2.1,(ax t143).2.2.2.1,(aA t143).1,(aA t143).2.1,(aA t143).2.2.1,(aA t143).2.2.2.1,(aG t143).1,(aG t143).2.1,bY.1,t143.2.2.2.2.2.1,(aG t143).2.2.1,(aG t143).2.2.2.1,(aJ t143).1,(aJ t143).2.1,(aJ t143).2.2.1,(aJ t143).2.2.2.1,())))) (fun zrr=>
 ab true fun v160=>
 ck (!v160)<|
 ab (zrr.1 != (0:Int)) fun zrs=>
 cn v160<|
 ab (v160||zrs) fun v162=>
 none)) (
 ab (IntKind.i64.wrap (t44+(1:Int))) fun zrt=>
 some (.inl (every,t42,t43,zrt,c,(aG bq).2.2.1,(aG bq).2.2.2.1,(aJ bq).1,(aJ bq).2.1,bq.2.2.1,bq.2.2.2.1,bq.2.2.2.2.1,bq.2.2.2.2.2.1,(q4 bq).2.2.1,(q4 bq).2.2.2.1,(q8 bq).1,(q8 bq).2.1,(q8 bq).2.2.1,(q8 bq).2.2.2.1,(ax bq).1,(ax bq).2.1,(ax bq).2.2.1,(ax bq).2.2.2.1,(aA bq).1,(aA bq).2.1,bY.1,(aJ bq).2.2.1,(eD bq).1,(aA bq).2.2.1,(aA bq).2.2.2.1,(aG bq).1,(aG bq).2.1,(aJ bq).2.2.2.1,())))))))) (
 some (.inr (.inl ())))
def Vz(s:Vv):Option zdl:=ct (fun s:Vv=>KO s.1 s.2.1 s.2.2.1 s.2.2.2.1 s.2.2.2.2.1 s.2.2.2.2.2.1 (q4 s).2.2.1 (q4 s).2.2.2.1 (q8 s).1 (q8 s).2.1 (q8 s).2.2.1 (q8 s).2.2.2.1 (ax s).1 (ax s).2.1 (ax s).2.2.1 (ax s).2.2.2.1 (aA s).1 (aA s).2.1 (aA s).2.2.1 (aA s).2.2.2.1 (aG s).1 (aG s).2.1 (aG s).2.2.1 (aG s).2.2.2.1 (aJ s).1 (aJ s).2.1 (aJ s).2.2.1 (aJ s).2.2.2.1 (eD s).1 (eD s).2.1 (eD s).2.2.1 (eD s).2.2.2.1 (nJ s).1) s
def VA(x:Int×Int×Int×Int×Int×Int×Int×Int×Int)(eE:List cH)(every:Int):Option (Bool×Unit):=
 ao xl fun y0=>
 ay (!y0.1) (
 some (false,())) (
 ao (yX x) fun y1=>
 ao (oB ((512:Int))) fun y2=>
 ao (iv y1.1 y2.2.1 y2.2.2.1 y2.2.2.2.1 y2.2.2.2.2.1 y2.2.2.2.2.2.1 y2.1) fun y3=>
 cC y3 (fun t4=>
 ab false fun v6=>
 ck (!v6)<|
 ab (t4.1 != (0:Int)) fun v7=>
 cn v6<|
 ab (v6||v7) fun v8=>
 ay v8 (
 some (false,())) (
 ao (sR eE) fun y9=>
 ao (Vz (every,y9.1,(↑y9.1.length:Int),(0:Int),y1.1,t4.2.1,t4.2.2.1,t4.2.2.2.1,t4.2.2.2.2.1,(q4 t4).2.2.1,(q4 t4).2.2.2.1,(q8 t4).1,(q8 t4).2.1,(q8 t4).2.2.1,(q8 t4).2.2.2.1,(ax t4).1,(ax t4).2.1,(ax t4).2.2.1,(ax t4).2.2.2.1,(aA t4).1,(aA t4).2.1,(aA t4).2.2.1,(aA t4).2.2.2.1,(aG t4).1,(aG t4).2.1,((0:Int),(0:Int),[],[],[],[],[]),t4.2.2.2.2.2.1,(aG t4).2.2.1,(aG t4).2.2.2.1,(aJ t4).1,(aJ t4).2.1,(aJ t4).2.2.1,(aJ t4).2.2.2.1,())) fun zru=>
 cC zru (fun t165=>
 some (true,())) (fun zrv=>
 some zrv))) (fun r5=>
 ab true fun v167=>
 ck (!v167)<|
 ab (r5.1 != (0:Int)) fun v168=>
 cn v167<|
 ab (v167||v168) fun zrw=>
 ay zrw (
 some (false,())) (
 ao (sR eE) fun zGv=>
 none)))
abbrev VB:Type:=(List cw)×Int×Int×bD×Int×Int×Bool×Int×Int×Int×Int×Int×Int×Int×Int×Int×Int×Int×Int×(List aX)×(List aH)×(List (Int×List aL))×(List aM)×(List (Int×Int×Int×Int))×(List (List Int))×(List (Int×List Int))×Int×Int×Int×Bool×(List (List Int))×Unit
abbrev zdr:Type:=(bD×Int×Int×Bool×Int×Int×Int×Int×Int×Int×Int×Int×Int×Int×Int×Int×(List aX)×(List aH)×(List (Int×List aL))×(List aM)×(List (Int×Int×Int×Int))×(List (List Int))×(List (Int×List Int))×Int×Int×Int×Bool×(List (List Int))×Unit)⊕(Bool×Unit)
def KQ(t33:List cw)(t34 t35:Int)(c:Int×Int×Int×Int×Int×Int×Int×Int×Int)(fM fN:Int)(fm:Bool)(fX sS sT sU sV sW sX sY sZ s0 s6 s7:Int)(s8:List aX)(s9:List aH)(ta:List (Int×List aL))(tc:List aM)(td:List (Int×Int×Int×Int))(KJ:List (List Int))(ui:List (Int×List Int))(KK KL KM:Int)(KN:Bool)(xm:List (List Int)):Option (VB⊕zdr):=
 ay (decide (t35<t34)) (
 aj ((0:Int)<=t35/\t35<(↑t33.length:Int))<|
 ab ((Option.rec jh (fun val=>val) t33[t35.toNat]?)) fun (v10:Int×aX×(Int×Int)×Int×cH×Int)=>
 ao (sQ v10 sS sT sU sV sW sX sY sZ s0 s6 s7 s8 s9 ta tc td KK KL KM KN fM fN fm fX KJ ui xm) fun bY=>
 ab (IntKind.i64.wrap (t35+(1:Int))) fun v12=>
 some (.inl (t33,t34,v12,c,(aG bY).2.2.1,(aG bY).2.2.2.1,(aJ bY).1,(aJ bY).2.1,bY.2.2.1,bY.2.2.2.1,bY.2.2.2.2.1,bY.2.2.2.2.2.1,(q4 bY).2.2.1,(q4 bY).2.2.2.1,(q8 bY).1,(q8 bY).2.1,(q8 bY).2.2.1,(q8 bY).2.2.2.1,(ax bY).1,(ax bY).2.1,(ax bY).2.2.1,(ax bY).2.2.2.1,(aA bY).1,(aA bY).2.1,(aJ bY).2.2.1,(eD bY).1,(aA bY).2.2.1,(aA bY).2.2.2.1,(aG bY).1,(aG bY).2.1,(aJ bY).2.2.2.1,()))) (
 some (.inr (.inl (c,fM,fN,fm,fX,sS,sT,sU,sV,sW,sX,sY,sZ,s0,s6,s7,s8,s9,ta,tc,td,KJ,ui,KK,KL,KM,KN,xm,()))))
def VC(s:VB):Option zdr:=ct (fun s:VB=>KQ s.1 s.2.1 s.2.2.1 s.2.2.2.1 s.2.2.2.2.1 s.2.2.2.2.2.1 (q4 s).2.2.1 (q4 s).2.2.2.1 (q8 s).1 (q8 s).2.1 (q8 s).2.2.1 (q8 s).2.2.2.1 (ax s).1 (ax s).2.1 (ax s).2.2.1 (ax s).2.2.2.1 (aA s).1 (aA s).2.1 (aA s).2.2.1 (aA s).2.2.2.1 (aG s).1 (aG s).2.1 (aG s).2.2.1 (aG s).2.2.2.1 (aJ s).1 (aJ s).2.1 (aJ s).2.2.1 (aJ s).2.2.2.1 (eD s).1 (eD s).2.1 (eD s).2.2.1) s
def VE(x:Int×Int×Int×Int×Int×Int×Int×Int×Int)(eE:List cH):Option (Bool×Unit):=
 ao xl fun y0=>
 ay (!y0.1) (
 some (false,())) (
 ao (yX x) fun y1=>
 ao (oB ((512:Int))) fun y2=>
 ao (iv y1.1 y2.2.1 y2.2.2.1 y2.2.2.2.1 y2.2.2.2.2.1 y2.2.2.2.2.2.1 y2.1) fun y3=>
 cC y3 (fun t4=>
 ab false fun v6=>
 ck (!v6)<|
 ab (t4.1 != (0:Int)) fun v7=>
 cn v6<|
 ab (v6||v7) fun v8=>
 ay v8 (
 some (false,())) (
 ao (sR eE) fun y9=>
 ao (VC (y9.1,(↑y9.1.length:Int),(0:Int),y1.1,t4.2.1,t4.2.2.1,t4.2.2.2.1,t4.2.2.2.2.1,(q4 t4).2.2.1,(q4 t4).2.2.2.1,(q8 t4).1,(q8 t4).2.1,(q8 t4).2.2.1,(q8 t4).2.2.2.1,(ax t4).1,(ax t4).2.1,(ax t4).2.2.1,(ax t4).2.2.2.1,(aA t4).1,(aA t4).2.1,(aA t4).2.2.1,(aA t4).2.2.2.1,(aG t4).1,(aG t4).2.1,t4.2.2.2.2.2.1,(aG t4).2.2.1,(aG t4).2.2.2.1,(aJ t4).1,(aJ t4).2.1,(aJ t4).2.2.1,(aJ t4).2.2.2.1,())) fun dR=>
 cC dR (fun t14=>
 ao ((
 some ())) fun ku=>
 ao (lG (((t14.2.2.2.2.2.1,(q4 t14).2.2.1,(q4 t14).2.2.2.1,(q8 t14).1,(q8 t14).2.1,(q8 t14).2.2.1,(q8 t14).2.2.2.1,(ax t14).1,(ax t14).2.1),(((aG t14).2.1,(aG t14).2.2.1,t14.2.1,t14.2.2.1,t14.2.2.2.1,t14.2.2.2.2.1),(aG t14).2.2.2.1,(aJ t14).1,(aJ t14).2.1,(aJ t14).2.2.2.1,(aJ t14).2.2.1),(ax t14).2.2.1,(ax t14).2.2.2.1,(aA t14).1,(aA t14).2.1,(aA t14).2.2.1,(aA t14).2.2.2.1,(aG t14).1))) fun yS=>
 ao (xk t14.2.2.2.2.2.1 (q4 t14).2.2.1 (q4 t14).2.2.2.1 (q8 t14).1 (q8 t14).2.1 (q8 t14).2.2.1 (q8 t14).2.2.2.1 (ax t14).1 (ax t14).2.1 (ax t14).2.2.1 (ax t14).2.2.2.1 (aA t14).1 (aA t14).2.1 (aA t14).2.2.1 (aA t14).2.2.2.1 (aG t14).1 (aG t14).2.2.2.1 (aJ t14).1 (aJ t14).2.1 (aJ t14).2.2.1 t14.2.1 t14.2.2.1 t14.2.2.2.1 t14.2.2.2.2.1 (aG t14).2.1 (aG t14).2.2.1 (aJ t14).2.2.2.1) fun cA=>
 ab (cA.1 != (0:Int)) fun iW=>
 ck (!iW)<|
 bU (!iW) (lG (((cA.2.1,cA.2.2.1,cA.2.2.2.1,cA.2.2.2.2.1,cA.2.2.2.2.2.1,(q4 cA).2.2.1,(q4 cA).2.2.2.1,(q8 cA).1,(q8 cA).2.1),(((aJ cA).2.1,(aJ cA).2.2.2.1,(aG cA).2.1,(aG cA).2.2.1,(aG cA).2.2.2.1,(aJ cA).1),(aA cA).2.1,(aA cA).2.2.1,(aA cA).2.2.2.1,(aJ cA).2.2.1,(aG cA).1),(q8 cA).2.2.1,(q8 cA).2.2.2.1,(ax cA).1,(ax cA).2.1,(ax cA).2.2.1,(ax cA).2.2.2.1,(aA cA).1))) ((0:Int),()) fun y20=>
 ck (!iW)<|
 ab (IntKind.i64.wrap (yS.1+(1:Int))) fun v21=>
 ck (!iW)<|
 ck (!iW)<|
 ab (y20.1 != v21) fun v22=>
 cn iW<|
 ab (iW||v22) fun v23=>
 ck (!v23)<|
 bU (!v23) (ju (((cA.2.1,cA.2.2.1,cA.2.2.2.1,cA.2.2.2.2.1,cA.2.2.2.2.2.1,(q4 cA).2.2.1,(q4 cA).2.2.2.1,(q8 cA).1,(q8 cA).2.1),(((aJ cA).2.1,(aJ cA).2.2.2.1,(aG cA).2.1,(aG cA).2.2.1,(aG cA).2.2.2.1,(aJ cA).1),(aA cA).2.1,(aA cA).2.2.1,(aA cA).2.2.2.1,(aJ cA).2.2.1,(aG cA).1),(q8 cA).2.2.1,(q8 cA).2.2.2.1,(ax cA).1,(ax cA).2.1,(ax cA).2.2.1,(ax cA).2.2.2.1,(aA cA).1))) ((0:Int),()) fun ou=>
 ck (!v23)<|
 ab (ou.1 != (0:Int)) fun v25=>
 cn v23<|
 ab (v23||v25) fun v26=>
 ck (!v26)<|
 bU (!v26) ((
 some ())) () fun rI=>
 ck (!v26)<|
 ck (!v26)<|
 bU (!v26) (lF (((q8 cA).2.2.1,(q8 cA).2.2.2.1,(ax cA).1,(ax cA).2.1,(ax cA).2.2.1,(ax cA).2.2.2.1,(aA cA).1)) (((ax t14).2.2.1,(ax t14).2.2.2.1,(aA t14).1,(aA t14).2.1,(aA t14).2.2.1,(aA t14).2.2.2.1,(aG t14).1))) (false,()) fun y28=>
 ck (!v26)<|
 cn v26<|
 ab (v26||!y28.1) fun kX=>
 ay kX (
 some (false,())) (
 ao (iv t14.1 (aG cA).2.1 (aG cA).2.2.1 (aG cA).2.2.2.1 (aJ cA).1 (aJ cA).2.1 (aJ cA).2.2.2.1) fun Vf=>
 cC Vf (fun t31=>
 ab (!false) fun v33=>
 ck v33<|
 ab (t31.1==(0:Int)) fun Cb=>
 ck v33<|
 ab (v33&&Cb) fun v35=>
 ck v35<|
 bU v35 (ju ((((q4 t31).2.2.1,(q4 t31).2.2.2.1,(q8 t31).1,(q8 t31).2.1,(q8 t31).2.2.1,(q8 t31).2.2.2.1,(ax t31).1,(ax t31).2.1,(ax t31).2.2.1),((t31.2.2.2.2.2.1,(aG t31).2.2.1,t31.2.1,t31.2.2.1,t31.2.2.2.1,t31.2.2.2.2.1),(aG t31).2.2.2.1,(aJ t31).1,(aJ t31).2.1,(aJ t31).2.2.2.1,(aJ t31).2.2.1),(ax t31).2.2.2.1,(aA t31).1,(aA t31).2.1,(aA t31).2.2.1,(aA t31).2.2.2.1,(aG t31).1,(aG t31).2.1))) ((0:Int),()) fun S9=>
 ck v35<|
 ab (S9.1==(0:Int)) fun v37=>
 ck v35<|
 ab (v35&&v37) fun mh=>
 ck mh<|
 bU mh (lG ((((q4 t31).2.2.1,(q4 t31).2.2.2.1,(q8 t31).1,(q8 t31).2.1,(q8 t31).2.2.1,(q8 t31).2.2.2.1,(ax t31).1,(ax t31).2.1,(ax t31).2.2.1),((t31.2.2.2.2.2.1,(aG t31).2.2.1,t31.2.1,t31.2.2.1,t31.2.2.2.1,t31.2.2.2.2.1),(aG t31).2.2.2.1,(aJ t31).1,(aJ t31).2.1,(aJ t31).2.2.2.1,(aJ t31).2.2.1),(ax t31).2.2.2.1,(aA t31).1,(aA t31).2.1,(aA t31).2.2.1,(aA t31).2.2.2.1,(aG t31).1,(aG t31).2.1))) ((0:Int),()) fun Ta=>
 ck mh<|
 ab (IntKind.i64.wrap (yS.1+(1:Int))) fun v40=>
 ck mh<|
 ck mh<|
 ab (Ta.1==v40) fun v41=>
 ck mh<|
 ab (mh&&v41) fun iX=>
 ck iX<|
 bU iX ((
 some ())) () fun OO=>
 ck iX<|
 ck iX<|
 bU iX (lF (((ax t31).2.2.2.1,(aA t31).1,(aA t31).2.1,(aA t31).2.2.1,(aA t31).2.2.2.1,(aG t31).1,(aG t31).2.1)) (((ax t14).2.2.1,(ax t14).2.2.2.1,(aA t14).1,(aA t14).2.1,(aA t14).2.2.1,(aA t14).2.2.2.1,(aG t14).1))) (false,()) fun KE=>
 ck iX<|
 ab (iX&&KE.1) fun v45=>
 some (v45,())) (fun r32=>
 ab (!true) fun v46=>
 ck v46<|
 ab (r32.1==(0:Int)) fun xi=>
 ck v46<|
 ab (v46&&xi) fun ie=>
 none))) (fun sM=>
 some sM))) (fun r5=>
 ab true fun v49=>
 ck (!v49)<|
 ab (r5.1 != (0:Int)) fun v50=>
 cn v49<|
 ab (v49||v50) fun v51=>
 ay v51 (
 some (false,())) (
 ao (sR eE) fun FE=>
 none)))
end
end Go.Tr
