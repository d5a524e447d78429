/- The Go functions come to these Lean functions: printed by a program of this session's. Conditions: none. -/
import Derived.Test.YtploofmfghjijaaGreatBE
import Derived.Test.YtploofmfghjijaaGreatDaeD
import Derived.Test.YtploofmfghjijaaGreatDaeX
import Derived.Test.YtploofmfghjijaaGreatDaeG
import Derived.Test.YtploofmfghjijaaGreatDaeH
import Derived.KernelRfl
import Derived.Test.YtploofmfghjijaaGreatProg
namespace Go.Tr
open Go
open Go.Proofs.Tryz
set_option linter.unusedVariables false
set_option maxRecDepth 100000
theorem mix:prog.follows .mixedOrders=true:=by rfl
abbrev LT:Type:=List (Nat×je×Nat×je)
theorem fo{F : FuncId}{D : FD}{f : D.In → Option D.Out}(T : List EntX)(o : OKs prog T)(L : LT){fn : Func}{c : Code}(hf : prog.funcs[F]? = some fn)(hb : fn.body = some c)(h : ∀ x, fnE std prog (coL std T) (mkLs L) D fn c x = f x)(hl : loopsWf L = true := by kernel_rfl)(hw : D.wf = true := by kernel_rfl)(hn : (fn.name == "runtime.NumGoroutine") = false := by decide)(hp : D.par.length ≤ fn.ntmps := by decide) : FnX prog F D f := FnX.of (coL_ok o.mem) mix (mkLs_ok hl) hw hf hb hn hp h
theorem eo{e:bf}(h:FnX prog e.F e.D e.f)(k:e.st=true:=by kernel_rfl):e.OK prog:=⟨h,k⟩
theorem fo2{F : FuncId}{D : FD2}{f : D.In → Option D.Out}(T : List EntX)(o : OKs prog T)(L : LT){fn : Func}{c : Code}(hf : prog.funcs[F]? = some fn)(hb : fn.body = some c)(h : ∀ x, fnE2 std prog (coL std T) (mkLs L) D fn c x = f x)(hl : loopsWf L = true := by kernel_rfl)(hw : D.wf = true := by kernel_rfl)(hn : (fn.name == "runtime.NumGoroutine") = false := by decide)(hp : D.par.length ≤ fn.ntmps := by decide) : FnX2 prog F D f := FnX2.of (coL_ok o.mem) mix (mkLs_ok hl) hw hf hb hn hp h
abbrev p0:LD:=.int .i64
abbrev p1:VD:=.leaf p0
abbrev p2:Nat×VD:=(0,p1)
abbrev p3:List (Nat×VD):=[p2]
abbrev p4:VD:=.leaf (.ptr 16 0)
abbrev p5:Sh:=.int .i64
abbrev p6:Sh:=.int .u8
abbrev p7:Sh:=.arr 64 p6
abbrev p8:Sh:=.pair p5 p7
abbrev p9:OD:=.rows p8
abbrev ji:LD:=.bool
abbrev jk:OD:=.rows p7
abbrev VT:Sh:=.pair (.sl p7) (.pair (.sl p8) (.pair p5 (.pair p5 (.pair .bool p5))))
abbrev VU:List (Nat×VD):=[(0,.leaf (.dq VT 0))]
abbrev mV:Sh:=.sl p6
abbrev p15:Sh:=.pair (.pt VT) (.pair p5 (.pair p5 (.pair p5 (.pair (.sl mV) .bool))))
abbrev p16:List (Nat×VD):=[(0,.leaf (.dq p15 0))]
abbrev mq:VD:=.leaf ji
abbrev e9:List (Nat×VD):=[(0,mq)]
abbrev eG:Nat×VD:=(1,p1)
abbrev qq:VD:=.leaf (.sl p6)
abbrev Ch:List (Nat×VD):=[(0,qq)]
abbrev kZ:Nat×VD:=(3,p1)
abbrev j5:Nat×VD:=(7,p1)
abbrev la:Nat×VD:=(8,p1)
abbrev KV:LD:=.int .u32
abbrev pF:VD:=.leaf KV
abbrev rJ:LD:=.ptr 0 0
abbrev gO:Nat×VD:=(0,.leaf rJ)
abbrev gB:Nat×VD:=(2,p1)
abbrev oD:LD:=.ptr 1 0
abbrev KW:Nat×OD:=(0,.cells [oD,p0,p0,p0,.own 4 mV,ji])
abbrev p32:Nat×OD:=(1,.cells [.own 2 p7,.own 3 p8,p0,p0,ji,p0])
abbrev lb:OD:=.rows mV
abbrev um:List (Nat×OD):=[KW,p32,(2,jk),(3,p9),(4,lb)]
abbrev qs:Nat×VD:=(14,p1)
abbrev jN:List (Nat×VD):=[gO]
abbrev rK:List (Nat×OD):=[(0,.cells [oD,p0,p0,p0,.own 16 mV,ji]),(1,.cells [.own 2 p7,.own 17 p8,p0,p0,ji,p0]),(2,jk),(16,lb),(17,p9)]
abbrev OV:LD:=.own 1 p7
abbrev xp:List (Nat×OD):=[(0,.cells [OV,.own 2 p8,p0,p0,ji,p0]),(1,jk),(2,p9)]
abbrev p40:Nat×OD:=(0,.cells [OV,.own 16 p8,p0,p0,ji,p0])
abbrev zt:List (Nat×OD):=[p40,(1,jk),(16,p9)]
abbrev p42:Nat×OD:=(0,.cells [OV,.own 17 p8,p0,p0,ji,p0])
abbrev VV:VD:=.leaf (.sl mV)
abbrev OW:Nat×VD:=(3,.leaf (.own 16 mV))
abbrev nO:Nat×OD:=(0,.cP (.pair mV .bool))
abbrev kv:List (Nat×OD):=[nO]
abbrev zu:Nat×OD:=(0,.cells [.sl p6,ji])
abbrev KX:List (Nat×VD):=[(0,.cP EF)]
abbrev KY:Nat×OD:=(16,.rows nK)
abbrev mW:Nat×VD:=(6,p1)
abbrev zw:List (Nat×OD):=[(1,.cells [.sl p6,ji]),(0,.cells [oD])]
abbrev oE:Nat×OD:=(1,.cells [rJ])
abbrev Ci:VD:=.leaf (.own 16 mg)
abbrev Cj:Nat×OD:=(16,.rows mg)
abbrev FO:VD:=.leaf (.own 16 sJ)
abbrev FP:Nat×OD:=(16,.rows sJ)
abbrev Ck:Nat×OD:=(16,.rows uf)
abbrev OX:Nat×VD:=(5,.leaf (.own 16 uf))
abbrev FQ:VD:=.leaf (.own 16 iU)
abbrev uo:OD:=.rows iU
abbrev FR:VD:=.leaf (.own 16 qi)
abbrev uq:Nat×OD:=(16,.rows qi)
abbrev zx:LD:=.sl nK
abbrev tf:VD:=.leaf zx
abbrev mX:Nat×VD:=(1,pF)
abbrev ur:LD:=.sl mg
abbrev Cl:VD:=.leaf ur
abbrev uu:Nat×VD:=(0,Cl)
abbrev zy:LD:=.sl uf
abbrev oF:VD:=.leaf zy
abbrev rL:VD:=.leaf (.sl sJ)
abbrev zA:LD:=.sl iU
abbrev vG:VD:=.leaf zA
abbrev tg:Nat×VD:=(0,vG)
abbrev xq:Sh:=.int .u32
abbrev th:LD:=.dq xq 0
abbrev zB:LD:=.sl qi
abbrev ti:VD:=.leaf zB
abbrev qt:Nat×VD:=(0,ti)
abbrev oG:Nat×VD:=(0,.cP Bw)
abbrev qu:Nat×VD:=(0,.cP Bv)
abbrev qv:Nat×OD:=(16,.cP Bv)
abbrev p83:Nat×VD:=(1,.fn 166 [] [.dq (.sl nK) 0,th])
abbrev p84:Nat×VD:=(1,.fn 177 [] [.dq (.sl uf) 0,th])
abbrev iw:LD:=.int .u8
abbrev p86:OD:=.cells [iw,iw,iw,iw,iw,iw]
abbrev oH:Nat×VD:=(2,p4)
abbrev FT:List (Nat×VD):=[(0,FR),eG]
abbrev KZ:List (Nat×VD):=[qu,(1,.cP Bw)]
abbrev OY:LD:=.ptr 17 0
abbrev rM:VD:=.leaf OY
abbrev tj:Nat×VD:=(3,rM)
abbrev uv:VD:=.leaf (.ptr 18 0)
abbrev mY:OD:=.cP Bw
abbrev rN:List (Nat×OD):=[(16,mY),(17,mY)]
abbrev VW:Nat×VD:=(1,.fn 200 [] [th,.dq p5 0,.dq Bv 0])
abbrev vH:Nat×OD:=(0,.cells [p0,p0,zx,ur,zy,zA,zB])
abbrev OZ:Nat×OD:=(1,.cells [p0,p0,p0,p0,p0,p0,p0,p0,p0])
abbrev uw:Nat×VD:=(0,.leaf (.own 0 p5))
abbrev ux:VD:=.fn 198 [] [oD]
abbrev oI:List (Nat×OD):=[(0,.rows p5),(1,.cells [ur])]
abbrev zdE:List (Nat×VD):=[kZ,(4,p4),(10,.leaf (.own 17 mg)),(11,.leaf (.own 18 xq)),(14,.leaf (.epr 17 mg 0)),(21,.leaf (.own 19 p5)),(22,p1),(23,p1)]
abbrev zdF:List (Nat×OD):=[qv,(17,.rows mg),(18,.rows xq),(19,.rows p5)]
abbrev zdG:List (Nat×OD):=[p42,(1,jk),(16,.cells [p0,p0,p0,p0,p0,p0,p0,p0,p0,.ptr 18 0,p0,p0,zx,ur,zy,zA,zB]),(17,p9),(18,.cells [rJ,p0,p0,p0,.own 19 mV,ji]),(19,lb)]
abbrev zdH:Nat×OD:=(17,.cells [p0,p0,p0,p0,p0,p0,p0,p0,p0,.ptr 19 0,p0,p0,zx,ur,zy,zA,zB])
abbrev O0:Nat×VD:=(0,.leaf (.dq (.pair Bv (.pair (.pt p15) Bw)) 0))
abbrev nP:Nat×VD:=(0,.leaf (.own 0 p6))
abbrev nQ:List (Nat×OD):=[(0,.rows p6)]
abbrev zC:Nat×VD:=(0,.leaf (.own 16 p6))
abbrev jO:List (Nat×VD):=[zC]
abbrev gZ:List (Nat×OD):=[(16,.rows p6)]
abbrev zdI:Nat×OD:=(0,.cells [p0,p0,p0,p0,p0,p0,p0,p0,p0,oD,p0,p0,zx,ur,zy,zA,zB])
abbrev zdJ:List (Nat×OD):=[zdI,(1,.cells [.ptr 2 0,p0,p0,p0,.own 5 mV,ji]),(2,.cells [.own 3 p7,.own 4 p8,p0,p0,ji,p0]),(3,jk),(4,p9),(5,lb)]
abbrev zdK:List (Nat×OD):=[zdI,(1,.cells [.ptr 2 0,p0,p0,p0,.own 16 mV,ji]),(2,.cells [.own 3 p7,.own 17 p8,p0,p0,ji,p0]),(3,jk),(16,lb),(17,p9)]
abbrev K0:Nat×VD:=(0,.cP (.pair p6 (.pair p6 (.pair p6 EF))))
abbrev xr:VD:=.leaf (.sl EF)
abbrev O1:Nat×VD:=(3,.leaf (.own 16 nL))
abbrev zdL:OD:=.cells [p0,KV,.str,iw,iw,iw,iw,iw,iw,KV,p0,p0,iw,iw,iw,iw,iw,iw,p0]
abbrev K3:VD:=.leaf (.sl nL)
abbrev O2:List (Nat×VD):=[oH,tj,(5,mq)]
abbrev zdM:OD:=.cells [.own 20 p7,.own 21 p8,p0,p0,ji,p0]
abbrev zdN:Nat×OD:=(17,.cells [.own 19 p7,.own 20 p8,p0,p0,ji,p0])
abbrev zdO:Nat×OD:=(18,.cells [p0,p0,p0,p0,p0,p0,p0,p0,p0,.ptr 21 0,p0,p0,zx,ur,zy,zA,zB])
abbrev zdP:Nat×OD:=(21,.cells [OY,p0,p0,p0,.own 22 mV,ji])
abbrev zdQ:List (Nat×OD):=[(16,zdL),zdN,zdO,(19,jk),(20,p9),zdP,(22,lb)]
abbrev zdR:List (Nat×OD):=[qv,zdN,zdO,(19,jk),(20,p9),zdP,(22,lb)]
def zdS:FD:=⟨p3,[],[(0,p4)],[(18,p9),(16,.cells [.own 17 p7,.own 18 p8,p0,p0,ji,p0]),(17,jk)]⟩
noncomputable def zsb:List EntX:=[]
theorem zsc:FnX prog 9 zdS (fun x=>oB x.1):=fo zsb trivial [] func9 rfl (fun x=>by kernel_rfl)
noncomputable def Cm:bf:=⟨9,zdS,fun x=>oB x.1,([],(0,(0,(false,(0,([],())))))),false⟩
theorem FU:Cm.OK prog:=eo zsc
def zdT:FD:=⟨VU,[],p3,[]⟩
noncomputable def zsd:List EntX:=[]
theorem zse:FnX prog 84 zdT (fun x=>OI x.1):=fo zsd trivial [] func84 rfl (fun x=>by kernel_rfl)
noncomputable def zdU:bf:=⟨84,zdT,fun x=>OI x.1,(0,()),false⟩
theorem zsf:zdU.OK prog:=eo zse
def zdV:FD:=⟨p16,[],p3,[]⟩
noncomputable def zsg:List EntX:=[.one zdU]
theorem zsh:FnX prog 33 zdV (fun x=>qm x.1):=fo zsg ⟨zsf,trivial⟩ [] func33 rfl (fun x=>by kernel_rfl)
noncomputable def Cn:bf:=⟨33,zdV,fun x=>qm x.1,(0,()),false⟩
theorem FV:Cn.OK prog:=eo zsh
def zdW:FD:=⟨VU,[],e9,[]⟩
noncomputable def zsi:List EntX:=[]
theorem zsj:FnX prog 34 zdW (fun x=>OJ x.1):=fo zsi trivial [] func34 rfl (fun x=>by kernel_rfl)
noncomputable def zdX:bf:=⟨34,zdW,fun x=>OJ x.1,(false,()),false⟩
theorem zsk:zdX.OK prog:=eo zsj
def zdY:FD:=⟨[(0,.leaf (.dq VT 0)),eG],[],[(0,.arr p7),eG],[]⟩
def zsl:LT:=[(7,⟨[eG,(4,.leaf (.epr 16 p7 0)),(6,.leaf (.epr 17 p7 0)),(38,.leaf (.sl p8)),(39,p1),(40,p1)],[(16,jk),(17,jk)],18,52⟩,1,⟨[(4,.leaf (.epr 16 p7 0)),(6,.leaf (.epr 17 p7 0))],[(16,jk),(17,jk)],18,52⟩)]
noncomputable def zsm:List EntX:=[]
theorem zsn:FnX prog 142 zdY (fun x=>Fu x.1 x.2.1):=fo zsm trivial zsl func142 rfl (fun x=>by kernel_rfl)
noncomputable def zdZ:bf:=⟨142,zdY,fun x=>Fu x.1 x.2.1,([],(0,())),false⟩
theorem zso:zdZ.OK prog:=eo zsn
def zd0:FD:=⟨Ch,[],p3,[]⟩
def zsp:LT:=[(3,⟨[kZ,(6,qq),j5,la],[],16,19⟩,0,⟨[kZ],[],16,19⟩)]
noncomputable def zsq:List EntX:=[]
theorem zsr:FnX prog 143 zd0 (fun x=>zg x.1):=fo zsq trivial zsp func143 rfl (fun x=>by kernel_rfl)
noncomputable def zd1:bf:=⟨143,zd0,fun x=>zg x.1,(0,()),false⟩
theorem zss:zd1.OK prog:=eo zsr
def zd2:FD:=⟨p3,[],p3,[]⟩
noncomputable def zst:List EntX:=[]
theorem zsu:FnX prog 37 zd2 (fun x=>sP x.1):=fo zst trivial [] func37 rfl (fun x=>by kernel_rfl)
noncomputable def FW:bf:=⟨37,zd2,fun x=>sP x.1,(0,()),false⟩
theorem K4:FW.OK prog:=eo zsu
noncomputable def zd3:vv:=H_lay 145
theorem zsv:zd3.OK prog:=h_wal_lay
def zd4:FD:=⟨Ch,[],[(0,pF)],[]⟩
def zsw:LT:=[(3,⟨[(3,pF),(7,qq),la,(9,p1)],[],16,31⟩,0,⟨[(3,pF)],[],16,31⟩),(7,⟨[(3,pF),(7,qq),la,(9,p1),(17,p1)],[],16,31⟩,2,⟨[(3,pF),(7,qq),la,(9,p1)],[],16,31⟩)]
noncomputable def zsx:List EntX:=[]
theorem zsy:FnX prog 146 zd4 (fun x=>Kq x.1):=fo zsx trivial zsw func146 rfl (fun x=>by kernel_rfl)
noncomputable def zd5:bf:=⟨146,zd4,fun x=>Kq x.1,(0,()),false⟩
theorem zsz:zd5.OK prog:=eo zsy
def zd6:FD:=⟨[p2,eG,(2,qq)],[],[(0,.arr p7)],[]⟩
noncomputable def zsA:List EntX:=[.one zd5,.hand zd3]
theorem zsB:FnX prog 88 zd6 (fun x=>Fv x.1 x.2.1 x.2.2.1):=fo zsA ⟨zsz,zsv,trivial⟩ [] func88 rfl (fun x=>by kernel_rfl)
noncomputable def VX:bf:=⟨88,zd6,fun x=>Fv x.1 x.2.1 x.2.2.1,([],()),false⟩
theorem zd7:VX.OK prog:=eo zsB
def zd8:FD:=⟨[gO,eG,gB,kZ],um,[p2,(1,qq),(2,mq)],um⟩
def zsC:LT:=[(9,⟨[gO,eG,gB,kZ,(11,.leaf (.epr 16 p7 0)),(13,p1),qs,(15,.leaf (.own 17 p6)),(16,p1)],[(17,.rows p6),KW,p32,(2,jk),(3,p9),(4,lb),(16,jk)],18,94⟩,0,⟨[kZ,(11,.leaf (.epr 16 p7 0)),(13,p1),qs,(15,.leaf (.own 17 p6))],[KW,p32,(2,jk),(3,p9),(4,lb),(16,jk),(17,.rows p6)],18,94⟩)]
noncomputable def zsD:List EntX:=[.one VX,.one FW,.one zd1,.one zdZ,.one Cn]
theorem zsE:FnX prog 85 zd8 (fun x=>Fw x.1 x.2.1 x.2.2.1 x.2.2.2.1 x.2.2.2.2.1 x.2.2.2.2.2.1 x.2.2.2.2.2.2.1 x.2.2.2.2.2.2.2.1 x.2.2.2.2.2.2.2.2.1 x.2.2.2.2.2.2.2.2.2.1 x.2.2.2.2.2.2.2.2.2.2.1 x.2.2.2.2.2.2.2.2.2.2.2.1 x.2.2.2.2.2.2.2.2.2.2.2.2.1 x.2.2.2.2.2.2.2.2.2.2.2.2.2.1):=fo zsD ⟨zd7,K4,zss,zso,FV,trivial⟩ zsC func85 rfl (fun x=>by kernel_rfl)
noncomputable def zd9:bf:=⟨85,zd8,fun x=>Fw x.1 x.2.1 x.2.2.1 x.2.2.2.1 x.2.2.2.2.1 x.2.2.2.2.2.1 x.2.2.2.2.2.2.1 x.2.2.2.2.2.2.2.1 x.2.2.2.2.2.2.2.2.1 x.2.2.2.2.2.2.2.2.2.1 x.2.2.2.2.2.2.2.2.2.2.1 x.2.2.2.2.2.2.2.2.2.2.2.1 x.2.2.2.2.2.2.2.2.2.2.2.2.1 x.2.2.2.2.2.2.2.2.2.2.2.2.2.1,(0,([],(false,(0,(0,(0,(false,(0,(0,(false,(0,([],([],([],())))))))))))))),true⟩
theorem zsF:zd9.OK prog:=eo zsE
def zea:FD:=⟨jN,um,e9,rK⟩
def zsG:LT:=[(2,⟨[gO,(10,p1)],rK,18,102⟩,0,⟨jN,rK,18,102⟩),(9,⟨jN,rK,18,102⟩,2,⟨jN,rK,18,102⟩)]
noncomputable def zsH:List EntX:=[.one FW,.one zd9]
theorem zsI:FnX prog 35 zea (fun x=>Kt x.1 x.2.1 x.2.2.1 x.2.2.2.1 x.2.2.2.2.1 x.2.2.2.2.2.1 x.2.2.2.2.2.2.1 x.2.2.2.2.2.2.2.1 x.2.2.2.2.2.2.2.2.1 x.2.2.2.2.2.2.2.2.2.1 x.2.2.2.2.2.2.2.2.2.2.1):=fo zsH ⟨K4,zsF,trivial⟩ zsG func35 rfl (fun x=>by kernel_rfl)
noncomputable def zeb:bf:=⟨35,zea,fun x=>Kt x.1 x.2.1 x.2.2.1 x.2.2.2.1 x.2.2.2.2.1 x.2.2.2.2.2.1 x.2.2.2.2.2.2.1 x.2.2.2.2.2.2.2.1 x.2.2.2.2.2.2.2.2.1 x.2.2.2.2.2.2.2.2.2.1 x.2.2.2.2.2.2.2.2.2.2.1,(false,(0,(0,(0,(false,(0,(0,(false,(0,([],([],([],())))))))))))),true⟩
theorem zsJ:zeb.OK prog:=eo zsI
def zec:FD:=⟨jN,xp,p3,xp⟩
noncomputable def zsK:List EntX:=[]
theorem zsL:FnX prog 144 zec (fun x=>Fx x.1 x.2.1 x.2.2.1 x.2.2.2.1 x.2.2.2.2.1 x.2.2.2.2.2.1):=fo zsK trivial [] func144 rfl (fun x=>by kernel_rfl)
noncomputable def VY:bf:=⟨144,zec,fun x=>Fx x.1 x.2.1 x.2.2.1 x.2.2.2.1 x.2.2.2.2.1 x.2.2.2.2.2.1,(0,(0,(0,(false,(0,([],([],()))))))),false⟩
theorem zed:VY.OK prog:=eo zsL
def zee:FD:=⟨[gO,eG,(2,.arr p7)],xp,p3,zt⟩
noncomputable def zsM:List EntX:=[.one VY]
theorem zsN:FnX prog 86 zee (fun x=>BX x.1 x.2.1 x.2.2.1 x.2.2.2.1 x.2.2.2.2.1 x.2.2.2.2.2.1 x.2.2.2.2.2.2.1 x.2.2.2.2.2.2.2.1):=fo zsM ⟨zed,trivial⟩ [] func86 rfl (fun x=>by kernel_rfl)
noncomputable def VZ:bf:=⟨86,zee,fun x=>BX x.1 x.2.1 x.2.2.1 x.2.2.2.1 x.2.2.2.2.1 x.2.2.2.2.2.1 x.2.2.2.2.2.2.1 x.2.2.2.2.2.2.2.1,(0,(0,(0,(false,(0,([],([],()))))))),false⟩
theorem zef:VZ.OK prog:=eo zsN
def zeg:FD:=⟨jN,xp,p3,zt⟩
def zsO:LT:=[(7,⟨[gO,(18,.leaf (.own 16 p8)),(19,p1),(20,p1)],zt,17,37⟩,0,⟨jN,zt,17,37⟩)]
noncomputable def zsP:List EntX:=[.one VY]
theorem zsQ:FnX prog 87 zeg (fun x=>BY x.1 x.2.1 x.2.2.1 x.2.2.2.1 x.2.2.2.2.1 x.2.2.2.2.2.1):=fo zsP ⟨zed,trivial⟩ zsO func87 rfl (fun x=>by kernel_rfl)
noncomputable def V0:bf:=⟨87,zeg,fun x=>BY x.1 x.2.1 x.2.2.1 x.2.2.2.1 x.2.2.2.2.1 x.2.2.2.2.2.1,(0,(0,(0,(false,(0,([],([],()))))))),false⟩
theorem zeh:V0.OK prog:=eo zsQ
def zei:FD:=⟨[gO,eG,gB],um,p3,rK⟩
def zsR:LT:=[(2,⟨[gO,eG,j5],rK,18,36⟩,0,⟨jN,rK,18,36⟩)]
noncomputable def zsS:List EntX:=[.one V0,.one VZ,.one Cn]
theorem zsT:FnX prog 36 zei (fun x=>BZ x.1 x.2.1 x.2.2.1 x.2.2.2.1 x.2.2.2.2.1 x.2.2.2.2.2.1 x.2.2.2.2.2.2.1 x.2.2.2.2.2.2.2.1 x.2.2.2.2.2.2.2.2.1 x.2.2.2.2.2.2.2.2.2.1 x.2.2.2.2.2.2.2.2.2.2.1 x.2.2.2.2.2.2.2.2.2.2.2.1 x.2.2.2.2.2.2.2.2.2.2.2.2.1):=fo zsS ⟨zeh,zef,FV,trivial⟩ zsR func36 rfl (fun x=>by kernel_rfl)
noncomputable def V1:bf:=⟨36,zei,fun x=>BZ x.1 x.2.1 x.2.2.1 x.2.2.2.1 x.2.2.2.2.1 x.2.2.2.2.2.1 x.2.2.2.2.2.2.1 x.2.2.2.2.2.2.2.1 x.2.2.2.2.2.2.2.2.1 x.2.2.2.2.2.2.2.2.2.1 x.2.2.2.2.2.2.2.2.2.2.1 x.2.2.2.2.2.2.2.2.2.2.2.1 x.2.2.2.2.2.2.2.2.2.2.2.2.1,(0,(0,(0,(0,(false,(0,(0,(false,(0,([],([],([],())))))))))))),true⟩
theorem zej:V1.OK prog:=eo zsT
def zek:FD:=⟨[gO,eG],um,p3,um⟩
noncomputable def zsU:List EntX:=[]
theorem zsV:FnX prog 38 zek (fun x=>zh x.1 x.2.1 x.2.2.1 x.2.2.2.1 x.2.2.2.2.1 x.2.2.2.2.2.1 x.2.2.2.2.2.2.1 x.2.2.2.2.2.2.2.1 x.2.2.2.2.2.2.2.2.1 x.2.2.2.2.2.2.2.2.2.1 x.2.2.2.2.2.2.2.2.2.2.1 x.2.2.2.2.2.2.2.2.2.2.2.1):=fo zsU trivial [] func38 rfl (fun x=>by kernel_rfl)
noncomputable def V2:bf:=⟨38,zek,fun x=>zh x.1 x.2.1 x.2.2.1 x.2.2.2.1 x.2.2.2.2.1 x.2.2.2.2.2.1 x.2.2.2.2.2.2.1 x.2.2.2.2.2.2.2.1 x.2.2.2.2.2.2.2.2.1 x.2.2.2.2.2.2.2.2.2.1 x.2.2.2.2.2.2.2.2.2.2.1 x.2.2.2.2.2.2.2.2.2.2.2.1,(0,(0,(0,(0,(false,(0,(0,(false,(0,([],([],([],())))))))))))),true⟩
theorem zel:V2.OK prog:=eo zsV
def zem:FD:=⟨[gO,eG,gB,kZ,(4,p1),(5,qq)],um,p3,rK⟩
def zsW:LT:=[(3,⟨[gO,kZ,(4,p1),(5,qq),(13,p1),qs],rK,18,77⟩,0,⟨[gO,kZ,(4,p1),(5,qq),(13,p1)],rK,18,77⟩)]
noncomputable def zsX:List EntX:=[.one VX,.one V0,.one VZ,.one FW,.one Cn]
theorem zsY:FnX prog 39 zem (fun x=>B0 x.1 x.2.1 x.2.2.1 x.2.2.2.1 x.2.2.2.2.1 x.2.2.2.2.2.1 x.2.2.2.2.2.2.1 x.2.2.2.2.2.2.2.1 x.2.2.2.2.2.2.2.2.1 x.2.2.2.2.2.2.2.2.2.1 x.2.2.2.2.2.2.2.2.2.2.1 x.2.2.2.2.2.2.2.2.2.2.2.1 x.2.2.2.2.2.2.2.2.2.2.2.2.1 x.2.2.2.2.2.2.2.2.2.2.2.2.2.1 x.2.2.2.2.2.2.2.2.2.2.2.2.2.2.1 x.2.2.2.2.2.2.2.2.2.2.2.2.2.2.2.1):=fo zsX ⟨zd7,zeh,zef,K4,FV,trivial⟩ zsW func39 rfl (fun x=>by kernel_rfl)
noncomputable def V3:bf:=⟨39,zem,fun x=>B0 x.1 x.2.1 x.2.2.1 x.2.2.2.1 x.2.2.2.2.1 x.2.2.2.2.2.1 x.2.2.2.2.2.2.1 x.2.2.2.2.2.2.2.1 x.2.2.2.2.2.2.2.2.1 x.2.2.2.2.2.2.2.2.2.1 x.2.2.2.2.2.2.2.2.2.2.1 x.2.2.2.2.2.2.2.2.2.2.2.1 x.2.2.2.2.2.2.2.2.2.2.2.2.1 x.2.2.2.2.2.2.2.2.2.2.2.2.2.1 x.2.2.2.2.2.2.2.2.2.2.2.2.2.2.1 x.2.2.2.2.2.2.2.2.2.2.2.2.2.2.2.1,(0,(0,(0,(0,(false,(0,(0,(false,(0,([],([],([],())))))))))))),true⟩
theorem zen:V3.OK prog:=eo zsY
def zeo:FD:=⟨[gO,(1,qq)],um,p3,rK⟩
noncomputable def zsZ:List EntX:=[.one V3,.one V2,.one V1,.one Cn,.one FW]
theorem zs0:FnX prog 11 zeo (fun x=>zi x.1 x.2.1 x.2.2.1 x.2.2.2.1 x.2.2.2.2.1 x.2.2.2.2.2.1 x.2.2.2.2.2.2.1 x.2.2.2.2.2.2.2.1 x.2.2.2.2.2.2.2.2.1 x.2.2.2.2.2.2.2.2.2.1 x.2.2.2.2.2.2.2.2.2.2.1 x.2.2.2.2.2.2.2.2.2.2.2.1):=fo zsZ ⟨zen,zel,zej,FV,K4,trivial⟩ [] func11 rfl (fun x=>by kernel_rfl)
noncomputable def O3:bf:=⟨11,zeo,fun x=>zi x.1 x.2.1 x.2.2.1 x.2.2.2.1 x.2.2.2.2.1 x.2.2.2.2.2.1 x.2.2.2.2.2.2.1 x.2.2.2.2.2.2.2.1 x.2.2.2.2.2.2.2.2.1 x.2.2.2.2.2.2.2.2.2.1 x.2.2.2.2.2.2.2.2.2.2.1 x.2.2.2.2.2.2.2.2.2.2.2.1,(0,(0,(0,(0,(false,(0,(0,(false,(0,([],([],([],())))))))))))),true⟩
theorem V4:O3.OK prog:=eo zs0
def zep:FD2:=⟨jN,xp,[(0,p4),eG],[p42,(1,jk),(16,.cells [rJ,p0,p0,p0,.own 18 mV,ji]),(17,p9),(18,lb)],[(0,.leaf .jS),eG],zt⟩
noncomputable def zs1:List EntX:=[.one O3,.one V1,.one zeb,.one zdX,.one Cn]
theorem zs2:FnX2 prog 10 zep (fun x=>B1 x.1 x.2.1 x.2.2.1 x.2.2.2.1 x.2.2.2.2.1 x.2.2.2.2.2.1):=fo2 zs1 ⟨V4,zej,zsJ,zsk,FV,trivial⟩ [] func10 rfl (fun x=>by kernel_rfl)
noncomputable def V5:tZ:=⟨10,zep,fun x=>B1 x.1 x.2.1 x.2.2.1 x.2.2.2.1 x.2.2.2.2.1 x.2.2.2.2.2.1,(0,(0,(0,(false,(0,([],(0,(0,(0,(false,([],([],())))))))))))),(0,(0,(0,(false,(0,([],([],()))))))),true⟩
theorem zeq:V5.OK prog:=⟨zs2,by kernel_rfl⟩
def zer:FD:=⟨jN,um,[(0,VV)],um⟩
def zs3:LT:=[(3,⟨[OW,(9,.leaf (.own 4 mV)),(10,p1),(11,p1)],[(16,lb),KW,p32,(2,jk),(3,p9),(4,lb)],17,22⟩,0,⟨[OW],[KW,p32,(2,jk),(3,p9),(4,lb),(16,lb)],17,22⟩)]
noncomputable def zs4:List EntX:=[]
theorem zs5:FnX prog 61 zer (fun x=>KA x.1 x.2.1 x.2.2.1 x.2.2.2.1 x.2.2.2.2.1 x.2.2.2.2.2.1 x.2.2.2.2.2.2.1 x.2.2.2.2.2.2.2.1 x.2.2.2.2.2.2.2.2.1 x.2.2.2.2.2.2.2.2.2.1 x.2.2.2.2.2.2.2.2.2.2.1):=fo zs4 trivial zs3 func61 rfl (fun x=>by kernel_rfl)
noncomputable def zes:bf:=⟨61,zer,fun x=>KA x.1 x.2.1 x.2.2.1 x.2.2.2.1 x.2.2.2.2.1 x.2.2.2.2.2.1 x.2.2.2.2.2.2.1 x.2.2.2.2.2.2.2.1 x.2.2.2.2.2.2.2.2.1 x.2.2.2.2.2.2.2.2.2.1 x.2.2.2.2.2.2.2.2.2.2.1,([],(0,(0,(0,(false,(0,(0,(false,(0,([],([],([],())))))))))))),true⟩
theorem zs6:zes.OK prog:=eo zs5
def zet:FD:=⟨[gO,eG],kv,Ch,kv⟩
noncomputable def zs7:List EntX:=[]
theorem zs8:FnX prog 90 zet (fun x=>yP x.1 x.2.1):=fo zs7 trivial [] func90 rfl (fun x=>by kernel_rfl)
noncomputable def O4:bf:=⟨90,zet,fun x=>yP x.1 x.2.1,([],(([],false),())),true⟩
theorem V6:O4.OK prog:=eo zs8
def zeu:FD:=⟨[gO,eG],kv,p3,kv⟩
def zs9:LT:=[(3,⟨[(5,p1),(10,qq),(11,p1),(12,p1)],[zu],16,23⟩,0,⟨[(5,p1)],[zu],16,23⟩)]
noncomputable def zta:List EntX:=[.one O4]
theorem ztb:FnX prog 89 zeu (fun x=>sK x.1 x.2.1):=fo zta ⟨V6,trivial⟩ zs9 func89 rfl (fun x=>by kernel_rfl)
noncomputable def K5:bf:=⟨89,zeu,fun x=>sK x.1 x.2.1,(0,(([],false),())),true⟩
theorem O5:K5.OK prog:=eo ztb
def zev:FD:=⟨jN,kv,p3,kv⟩
noncomputable def ztc:List EntX:=[.one K5]
theorem ztd:FnX prog 40 zev (fun x=>vC x.1):=fo ztc ⟨O5,trivial⟩ [] func40 rfl (fun x=>by kernel_rfl)
noncomputable def FX:bf:=⟨40,zev,fun x=>vC x.1,(0,(([],false),())),true⟩
theorem K6:FX.OK prog:=eo ztd
def zew:FD:=⟨jN,kv,p3,kv⟩
noncomputable def zte:List EntX:=[.one K5]
theorem ztf:FnX prog 41 zew (fun x=>rr x.1):=fo zte ⟨O5,trivial⟩ [] func41 rfl (fun x=>by kernel_rfl)
noncomputable def vI:bf:=⟨41,zew,fun x=>rr x.1,(0,(([],false),())),true⟩
theorem xt:vI.OK prog:=eo ztf
def zex:FD:=⟨jN,kv,[(0,pF)],kv⟩
noncomputable def ztg:List EntX:=[.one K5]
theorem zth:FnX prog 49 zex (fun x=>ri x.1):=fo ztg ⟨O5,trivial⟩ [] func49 rfl (fun x=>by kernel_rfl)
noncomputable def Co:bf:=⟨49,zex,fun x=>ri x.1,(0,(([],false),())),true⟩
theorem FY:Co.OK prog:=eo zth
def zey:FD:=⟨jN,kv,p3,kv⟩
noncomputable def zti:List EntX:=[.one K5]
theorem ztj:FnX prog 54 zey (fun x=>ug x.1):=fo zti ⟨O5,trivial⟩ [] func54 rfl (fun x=>by kernel_rfl)
noncomputable def Cp:bf:=⟨54,zey,fun x=>ug x.1,(0,(([],false),())),true⟩
theorem FZ:Cp.OK prog:=eo ztj
def zez:FD:=⟨jN,kv,KX,kv⟩
noncomputable def ztk:List EntX:=[.one O4]
theorem ztl:FnX prog 59 zez (fun x=>By x.1):=fo ztk ⟨V6,trivial⟩ [] func59 rfl (fun x=>by kernel_rfl)
noncomputable def O6:bf:=⟨59,zez,fun x=>By x.1,((0,(0,(0,(0,(0,0))))),(([],false),())),true⟩
theorem V7:O6.OK prog:=eo ztl
def zeA:FD:=⟨jN,kv,[(0,.cP nK)],kv⟩
noncomputable def ztm:List EntX:=[.one O6,.one O4,.one Cp,.one Co]
theorem ztn:FnX prog 43 zeA (fun x=>EM x.1):=fo ztm ⟨V7,V6,FZ,FY,trivial⟩ [] func43 rfl (fun x=>by kernel_rfl)
noncomputable def V8:bf:=⟨43,zeA,fun x=>EM x.1,((0,([],(0,(0,(0,(0,(0,0))))))),(([],false),())),true⟩
theorem zeB:V8.OK prog:=eo ztn
def zeC:FD:=⟨[gO,(1,.fn 43 [rJ] [])],kv,[(0,.leaf (.own 16 nK))],[nO,KY]⟩
def zto:LT:=[(3,⟨[gO,(1,.fn 43 [rJ] []),(5,.leaf (.own 16 nK)),mW],[KY,nO],17,26⟩,0,⟨[(5,.leaf (.own 16 nK))],[zu,KY],17,26⟩)]
noncomputable def ztp:List EntX:=[.one V8,.one vI]
theorem ztq:FnX prog 42 zeC (fun x=>IZ x.1):=fo ztp ⟨zeB,xt,trivial⟩ zto func42 rfl (fun x=>by kernel_rfl)
noncomputable def zeD:bf:=⟨42,zeC,fun x=>IZ x.1,(([],false),([],())),true⟩
theorem ztr:zeD.OK prog:=eo ztq
def zeE:FD:=⟨jN,kv,[(0,.cP kq)],kv⟩
noncomputable def zts:List EntX:=[.one Cp,.one Co]
theorem ztt:FnX prog 46 zeE (fun x=>BB x.1):=fo zts ⟨FZ,FY,trivial⟩ [] func46 rfl (fun x=>by kernel_rfl)
noncomputable def V9:bf:=⟨46,zeE,fun x=>BB x.1,((0,0),(([],false),())),true⟩
theorem zeF:V9.OK prog:=eo ztt
def zeG:FD:=⟨jN,zw,[(0,.cP mg)],zw⟩
noncomputable def ztu:List EntX:=[.one vI,.one FX,.one V9]
theorem ztv:FnX prog 45 zeG (fun x=>I0 x.1 x.2.1):=fo ztu ⟨xt,K6,zeF,trivial⟩ [] func45 rfl (fun x=>by kernel_rfl)
noncomputable def zeH:bf:=⟨45,zeG,fun x=>I0 x.1 x.2.1,(((0,0),(0,0)),([],(false,()))),true⟩
theorem ztw:zeH.OK prog:=eo ztv
def zeI:FD:=⟨[gO,(1,.fn 45 [] [oD])],[nO,oE],[(0,Ci)],[nO,oE,Cj]⟩
def ztx:LT:=[(3,⟨[gO,(1,.fn 45 [] [oD]),(5,Ci),mW],[Cj,nO,oE],17,26⟩,0,⟨[(5,Ci)],[zu,oE,Cj],17,26⟩)]
noncomputable def zty:List EntX:=[.one zeH,.one vI]
theorem ztz:FnX prog 44 zeI (fun x=>I1 x.1):=fo zty ⟨ztw,xt,trivial⟩ ztx func44 rfl (fun x=>by kernel_rfl)
noncomputable def zeJ:bf:=⟨44,zeI,fun x=>I1 x.1,(([],false),([],())),true⟩
theorem ztA:zeJ.OK prog:=eo ztz
def zeK:FD:=⟨jN,kv,[(0,.cP sJ)],kv⟩
noncomputable def ztB:List EntX:=[.one FX,.one O6,.one Cp]
theorem ztC:FnX prog 51 zeK (fun x=>I2 x.1):=fo ztB ⟨K6,V7,FZ,trivial⟩ [] func51 rfl (fun x=>by kernel_rfl)
noncomputable def zeL:bf:=⟨51,zeK,fun x=>I2 x.1,((0,((0,(0,(0,(0,(0,0))))),0)),(([],false),())),true⟩
theorem ztD:zeL.OK prog:=eo ztC
def zeM:FD:=⟨[gO,(1,.fn 51 [rJ] [])],kv,[(0,FO)],[nO,FP]⟩
def ztE:LT:=[(3,⟨[gO,(1,.fn 51 [rJ] []),(5,FO),mW],[FP,nO],17,26⟩,0,⟨[(5,FO)],[zu,FP],17,26⟩)]
noncomputable def ztF:List EntX:=[.one zeL,.one vI]
theorem ztG:FnX prog 50 zeM (fun x=>I3 x.1):=fo ztF ⟨ztD,xt,trivial⟩ ztE func50 rfl (fun x=>by kernel_rfl)
noncomputable def zeN:bf:=⟨50,zeM,fun x=>I3 x.1,(([],false),([],())),true⟩
theorem ztH:zeN.OK prog:=eo ztG
def zeO:FD:=⟨jN,zw,[(0,.cP uf)],zw⟩
noncomputable def ztI:List EntX:=[.one zeN,.one Co]
theorem ztJ:FnX prog 48 zeO (fun x=>I4 x.1 x.2.1):=fo ztI ⟨ztH,FY,trivial⟩ [] func48 rfl (fun x=>by kernel_rfl)
noncomputable def zeP:bf:=⟨48,zeO,fun x=>I4 x.1 x.2.1,((0,[]),([],(false,()))),true⟩
theorem ztK:zeP.OK prog:=eo ztJ
def zeQ:FD:=⟨[gO,(1,.fn 48 [] [oD])],[nO,oE],[(0,.leaf (.own 16 uf))],[nO,oE,Ck]⟩
def ztL:LT:=[(3,⟨[gO,(1,.fn 48 [] [oD]),OX,mW],[Ck,nO,oE],17,26⟩,0,⟨[OX],[zu,oE,Ck],17,26⟩)]
noncomputable def ztM:List EntX:=[.one zeP,.one vI]
theorem ztN:FnX prog 47 zeQ (fun x=>I5 x.1):=fo ztM ⟨ztK,xt,trivial⟩ ztL func47 rfl (fun x=>by kernel_rfl)
noncomputable def zeR:bf:=⟨47,zeQ,fun x=>I5 x.1,(([],false),([],())),true⟩
theorem ztO:zeR.OK prog:=eo ztN
def zeS:FD:=⟨jN,zw,[(0,.cP iU)],zw⟩
noncomputable def ztP:List EntX:=[.one Cp,.one FX,.one vI,.one Co]
theorem ztQ:FnX prog 53 zeS (fun x=>I6 x.1 x.2.1):=fo ztP ⟨FZ,K6,xt,FY,trivial⟩ [] func53 rfl (fun x=>by kernel_rfl)
noncomputable def zeT:bf:=⟨53,zeS,fun x=>I6 x.1 x.2.1,((0,(0,(0,(0,0)))),([],(false,()))),true⟩
theorem ztR:zeT.OK prog:=eo ztQ
def zeU:FD:=⟨[gO,(1,.fn 53 [] [oD])],[nO,oE],[(0,FQ)],[nO,oE,(16,uo)]⟩
def ztS:LT:=[(3,⟨[gO,(1,.fn 53 [] [oD]),(5,FQ),mW],[(16,uo),nO,oE],17,26⟩,0,⟨[(5,FQ)],[zu,oE,(16,uo)],17,26⟩)]
noncomputable def ztT:List EntX:=[.one zeT,.one vI]
theorem ztU:FnX prog 52 zeU (fun x=>I7 x.1):=fo ztT ⟨ztR,xt,trivial⟩ ztS func52 rfl (fun x=>by kernel_rfl)
noncomputable def zeV:bf:=⟨52,zeU,fun x=>I7 x.1,(([],false),([],())),true⟩
theorem ztV:zeV.OK prog:=eo ztU
def zeW:FD:=⟨jN,zw,[(0,.cP qi)],zw⟩
noncomputable def ztW:List EntX:=[.one Cp,.one FX,.one Co]
theorem ztX:FnX prog 56 zeW (fun x=>I8 x.1 x.2.1):=fo ztW ⟨FZ,K6,FY,trivial⟩ [] func56 rfl (fun x=>by kernel_rfl)
noncomputable def zeX:bf:=⟨56,zeW,fun x=>I8 x.1 x.2.1,((0,(0,(0,0))),([],(false,()))),true⟩
theorem ztY:zeX.OK prog:=eo ztX
def zeY:FD:=⟨[gO,(1,.fn 56 [] [oD])],[nO,oE],[(0,FR)],[nO,oE,uq]⟩
def ztZ:LT:=[(3,⟨[gO,(1,.fn 56 [] [oD]),(5,FR),mW],[uq,nO,oE],17,26⟩,0,⟨[(5,FR)],[zu,oE,uq],17,26⟩)]
noncomputable def zt0:List EntX:=[.one zeX,.one vI]
theorem zt1:FnX prog 55 zeY (fun x=>I9 x.1):=fo zt0 ⟨ztY,xt,trivial⟩ ztZ func55 rfl (fun x=>by kernel_rfl)
noncomputable def zeZ:bf:=⟨55,zeY,fun x=>I9 x.1,(([],false),([],())),true⟩
theorem zt2:zeZ.OK prog:=eo zt1
def ze0:FD:=⟨p3,[],p3,[]⟩
noncomputable def zt3:List EntX:=[]
theorem zt4:FnX prog 91 ze0 (fun x=>kW x.1):=fo zt3 trivial [] func91 rfl (fun x=>by kernel_rfl)
noncomputable def rO:bf:=⟨91,ze0,fun x=>kW x.1,(0,()),false⟩
theorem tk:rO.OK prog:=eo zt4
def ze1:FD:=⟨[(0,.leaf .str)],[],e9,[]⟩
def zt5:LT:=[(2,⟨[(0,.leaf .str),mW,j5],[],16,35⟩,0,⟨[(0,.leaf .str)],[],16,35⟩)]
noncomputable def zt6:List EntX:=[]
theorem zt7:FnX prog 97 ze1 (fun x=>Bz x.1):=fo zt6 trivial zt5 func97 rfl (fun x=>by kernel_rfl)
noncomputable def O7:bf:=⟨97,ze1,fun x=>Bz x.1,(false,()),false⟩
theorem Wa:O7.OK prog:=eo zt7
def ze2:FD:=⟨[(0,tf)],[],e9,[]⟩
def zt8:LT:=[(2,⟨[(0,tf),(5,tf),mW,j5],[],16,35⟩,0,⟨[(0,tf)],[],16,35⟩)]
noncomputable def zt9:List EntX:=[.one O7]
theorem zua:FnX prog 92 ze2 (fun x=>Jb x.1):=fo zt9 ⟨Wa,trivial⟩ zt8 func92 rfl (fun x=>by kernel_rfl)
noncomputable def ze3:bf:=⟨92,ze2,fun x=>Jb x.1,(false,()),false⟩
theorem zub:ze3.OK prog:=eo zua
def ze4:FD:=⟨p3,[],[(0,pF)],[]⟩
noncomputable def zuc:List EntX:=[]
theorem zud:FnX prog 167 ze4 (fun x=>EJ x.1):=fo zuc trivial [] func167 rfl (fun x=>by kernel_rfl)
noncomputable def Wb:bf:=⟨167,ze4,fun x=>EJ x.1,(0,()),false⟩
theorem ze5:Wb.OK prog:=eo zud
def ze6:FD:=⟨[(0,.cP kq)],[],e9,[]⟩
noncomputable def zue:List EntX:=[.one Wb]
theorem zuf:FnX prog 110 ze6 (fun x=>vy x.1):=fo zue ⟨ze5,trivial⟩ [] func110 rfl (fun x=>by kernel_rfl)
noncomputable def F0:bf:=⟨110,ze6,fun x=>vy x.1,(false,()),false⟩
theorem K7:F0.OK prog:=eo zuf
def ze7:FD:=⟨[(0,.cP kq)],[],p3,[]⟩
noncomputable def zug:List EntX:=[.one F0]
theorem zuh:FnX prog 111 ze7 (fun x=>vz x.1):=fo zug ⟨K7,trivial⟩ [] func111 rfl (fun x=>by kernel_rfl)
noncomputable def K8:bf:=⟨111,ze7,fun x=>vz x.1,(0,()),false⟩
theorem O8:K8.OK prog:=eo zuh
def ze8:FD:=⟨[(0,.cP kq),mX],[],e9,[]⟩
noncomputable def zui:List EntX:=[.one Wb,.one F0]
theorem zuj:FnX prog 186 ze8 (fun x=>IH x.1 x.2.1):=fo zui ⟨ze5,K7,trivial⟩ [] func186 rfl (fun x=>by kernel_rfl)
noncomputable def ze9:bf:=⟨186,ze8,fun x=>IH x.1 x.2.1,(false,()),false⟩
theorem zuk:ze9.OK prog:=eo zuj
def zfa:FD:=⟨[(0,.cP kq),(1,.cP kq)],[],e9,[]⟩
noncomputable def zul:List EntX:=[.one ze9,.one F0]
theorem zum:FnX prog 168 zfa (fun x=>EK x.1 x.2.1):=fo zul ⟨zuk,K7,trivial⟩ [] func168 rfl (fun x=>by kernel_rfl)
noncomputable def zfb:bf:=⟨168,zfa,fun x=>EK x.1 x.2.1,(false,()),false⟩
theorem zun:zfb.OK prog:=eo zum
def zfc:FD:=⟨[(0,.cP kq),(1,.cP kq)],[],e9,[]⟩
noncomputable def zuo:List EntX:=[.one zfb]
theorem zup:FnX prog 114 zfc (fun x=>EL x.1 x.2.1):=fo zuo ⟨zun,trivial⟩ [] func114 rfl (fun x=>by kernel_rfl)
noncomputable def Wc:bf:=⟨114,zfc,fun x=>EL x.1 x.2.1,(false,()),false⟩
theorem zfd:Wc.OK prog:=eo zup
def zfe:FD:=⟨[uu],[],e9,[]⟩
def zuq:LT:=[(2,⟨[uu,(5,Cl),mW,j5],[],16,73⟩,0,⟨[uu],[],16,73⟩)]
noncomputable def zur:List EntX:=[.one Wc,.one rO,.one K8,.one F0]
theorem zus:FnX prog 93 zfe (fun x=>Jd x.1):=fo zur ⟨zfd,tk,O8,K7,trivial⟩ zuq func93 rfl (fun x=>by kernel_rfl)
noncomputable def zff:bf:=⟨93,zfe,fun x=>Jd x.1,(false,()),false⟩
theorem zut:zff.OK prog:=eo zus
def zfg:FD:=⟨[(0,oF)],[],e9,[]⟩
def zuu:LT:=[(2,⟨[(0,oF),(7,oF),la,(9,p1)],[],16,81⟩,0,⟨[(0,oF)],[],16,81⟩),(7,⟨[(0,oF),(4,p4),(7,oF),la,(9,p1),(40,rL),(41,p1),(42,p1)],[(16,.cells [KV,.sl sJ])],17,81⟩,2,⟨[(0,oF),(7,oF),la,(9,p1)],[],16,81⟩)]
noncomputable def zuv:List EntX:=[]
theorem zuw:FnX prog 94 zfg (fun x=>Jh x.1):=fo zuv trivial zuu func94 rfl (fun x=>by kernel_rfl)
noncomputable def zfh:bf:=⟨94,zfg,fun x=>Jh x.1,(false,()),false⟩
theorem zux:zfh.OK prog:=eo zuw
def zfi:FD:=⟨[(0,.cP iU),(1,.leaf (.dq iU 0))],[],e9,[]⟩
noncomputable def zuy:List EntX:=[]
theorem zuz:FnX prog 148 zfi (fun x=>N0 x.1 x.2.1):=fo zuy trivial [] func148 rfl (fun x=>by kernel_rfl)
noncomputable def zfj:bf:=⟨148,zfi,fun x=>N0 x.1 x.2.1,(false,()),false⟩
theorem zuA:zfj.OK prog:=eo zuz
def zfk:FD:=⟨[tg,(1,.fn 148 [] [.dq iU 0])],[],p3,[]⟩
def zuB:LT:=[(2,⟨[tg,(1,.fn 148 [] [.dq iU 0]),j5,la],[],16,19⟩,0,⟨[],[],16,19⟩)]
noncomputable def zuC:List EntX:=[.one zfj]
theorem zuD:FnX prog 171 zfk (fun x=>N1 x.1 x.2.1):=fo zuC ⟨zuA,trivial⟩ zuB func171 rfl (fun x=>by kernel_rfl)
noncomputable def zfl:bf:=⟨171,zfk,fun x=>N1 x.1 x.2.1,(0,()),false⟩
theorem zuE:zfl.OK prog:=eo zuD
def zfm:FD:=⟨[tg,(1,.fn 148 [] [.dq iU 0])],[],e9,[]⟩
noncomputable def zuF:List EntX:=[.one zfl]
theorem zuG:FnX prog 147 zfm (fun x=>Jl x.1 x.2.1):=fo zuF ⟨zuE,trivial⟩ [] func147 rfl (fun x=>by kernel_rfl)
noncomputable def zfn:bf:=⟨147,zfm,fun x=>Jl x.1 x.2.1,(false,()),false⟩
theorem zuH:zfn.OK prog:=eo zuG
def zfo:FD:=⟨[tg],[],e9,[]⟩
def zuI:LT:=[(2,⟨[tg,(5,vG),mW,j5],[],16,56⟩,0,⟨[tg],[],16,56⟩)]
noncomputable def zuJ:List EntX:=[.one zfn,.one rO]
theorem zuK:FnX prog 95 zfo (fun x=>Jn x.1):=fo zuJ ⟨zuH,tk,trivial⟩ zuI func95 rfl (fun x=>by kernel_rfl)
noncomputable def zfp:bf:=⟨95,zfo,fun x=>Jn x.1,(false,()),false⟩
theorem zuL:zfp.OK prog:=eo zuK
def zfq:FD:=⟨[(0,.cP qi)],[],e9,[]⟩
noncomputable def zuM:List EntX:=[]
theorem zuN:FnX prog 149 zfq (fun x=>xd x.1):=fo zuM trivial [] func149 rfl (fun x=>by kernel_rfl)
noncomputable def K9:bf:=⟨149,zfq,fun x=>xd x.1,(false,()),false⟩
theorem O9:K9.OK prog:=eo zuN
def zfr:FD:=⟨[(0,.cP qi),(1,.leaf th)],[],e9,[]⟩
noncomputable def zuO:List EntX:=[.one K9]
theorem zuP:FnX prog 179 zfr (fun x=>N2 x.1 x.2.1):=fo zuO ⟨O9,trivial⟩ [] func179 rfl (fun x=>by kernel_rfl)
noncomputable def zfs:bf:=⟨179,zfr,fun x=>N2 x.1 x.2.1,(false,()),false⟩
theorem zuQ:zfs.OK prog:=eo zuP
def zft:FD:=⟨[qt,(1,.fn 179 [] [th])],[],p3,[]⟩
def zuR:LT:=[(2,⟨[qt,(1,.fn 179 [] [th]),j5,la],[],16,19⟩,0,⟨[],[],16,19⟩)]
noncomputable def zuS:List EntX:=[.one zfs]
theorem zuT:FnX prog 178 zft (fun x=>N3 x.1 x.2.1):=fo zuS ⟨zuQ,trivial⟩ zuR func178 rfl (fun x=>by kernel_rfl)
noncomputable def zfu:bf:=⟨178,zft,fun x=>N3 x.1 x.2.1,(0,()),false⟩
theorem zuU:zfu.OK prog:=eo zuT
def zfv:FD:=⟨[qt,mX],[],p3,[]⟩
noncomputable def zuV:List EntX:=[.one zfu]
theorem zuW:FnX prog 150 zfv (fun x=>yU x.1 x.2.1):=fo zuV ⟨zuU,trivial⟩ [] func150 rfl (fun x=>by kernel_rfl)
noncomputable def La:bf:=⟨150,zfv,fun x=>yU x.1 x.2.1,(0,()),false⟩
theorem Pa:La.OK prog:=eo zuW
def zfw:FD:=⟨[qt],[],e9,[]⟩
def zuX:LT:=[(2,⟨[qt,(5,ti),mW,j5],[],16,69⟩,0,⟨[qt],[],16,69⟩)]
noncomputable def zuY:List EntX:=[.one La,.one K9,.one rO]
theorem zuZ:FnX prog 96 zfw (fun x=>Jr x.1):=fo zuY ⟨Pa,O9,tk,trivial⟩ zuX func96 rfl (fun x=>by kernel_rfl)
noncomputable def zfx:bf:=⟨96,zfw,fun x=>Jr x.1,(false,()),false⟩
theorem zu0:zfx.OK prog:=eo zuZ
def zfy:FD:=⟨[oG],[],e9,[]⟩
noncomputable def zu1:List EntX:=[.one zfx,.one zfp,.one zfh,.one zff,.one ze3,.one rO]
theorem zu2:FnX prog 57 zfy (fun x=>E4 x.1):=fo zu1 ⟨zu0,zuL,zux,zut,zub,tk,trivial⟩ [] func57 rfl (fun x=>by kernel_rfl)
noncomputable def zfz:bf:=⟨57,zfy,fun x=>E4 x.1,(false,()),false⟩
theorem zu3:zfz.OK prog:=eo zu2
def zfA:FD:=⟨Ch,[],[oG,(1,mq)],[]⟩
noncomputable def zu4:List EntX:=[.one zfz,.one zeZ,.one zeV,.one zeR,.one zeJ,.one zeD,.one vI,.one FX]
theorem zu5:FnX prog 12 zfA (fun x=>E5 x.1):=fo zu4 ⟨zu3,zt2,ztV,ztO,ztA,ztr,xt,K6,trivial⟩ [] func12 rfl (fun x=>by kernel_rfl)
noncomputable def We:bf:=⟨12,zfA,fun x=>E5 x.1,((0,(0,([],([],([],([],[])))))),(false,())),true⟩
theorem zfB:We.OK prog:=eo zu5
def zfC:FD:=⟨KX,[],e9,[]⟩
noncomputable def zu6:List EntX:=[]
theorem zu7:FnX prog 98 zfC (fun x=>IJ x.1):=fo zu6 trivial [] func98 rfl (fun x=>by kernel_rfl)
noncomputable def zfD:bf:=⟨98,zfC,fun x=>IJ x.1,(false,()),false⟩
theorem zu8:zfD.OK prog:=eo zu7
def zfE:FD:=⟨[(0,.cP nL)],[],e9,[]⟩
noncomputable def zu9:List EntX:=[.one zfD,.one O7]
theorem zva:FnX prog 60 zfE (fun x=>rj x.1):=fo zu9 ⟨zu8,Wa,trivial⟩ [] func60 rfl (fun x=>by kernel_rfl)
noncomputable def zfF:bf:=⟨60,zfE,fun x=>rj x.1,(false,()),false⟩
theorem zvb:zfF.OK prog:=eo zva
def zfG:FD:=⟨Ch,[],[(0,.cP nL),(1,mq)],[]⟩
noncomputable def zvc:List EntX:=[.one O6,.one Co,.one V9,.one zfF,.one V8,.one Cp]
theorem zvd:FnX prog 14 zfG (fun x=>yR x.1):=fo zvc ⟨V7,FY,zeF,zvb,zeB,FZ,trivial⟩ [] func14 rfl (fun x=>by kernel_rfl)
noncomputable def Lb:bf:=⟨14,zfG,fun x=>yR x.1,((0,((0,([],(0,(0,(0,(0,(0,0))))))),((0,0),(0,((0,(0,(0,(0,(0,0))))),0))))),(false,())),false⟩
theorem Pb:Lb.OK prog:=eo zvd
def zfH:FD:=⟨[p2,eG],[],p3,[]⟩
noncomputable def zve:List EntX:=[.one rO]
theorem zvf:FnX prog 101 zfH (fun x=>E8 x.1 x.2.1):=fo zve ⟨tk,trivial⟩ [] func101 rfl (fun x=>by kernel_rfl)
noncomputable def Wf:bf:=⟨101,zfH,fun x=>E8 x.1 x.2.1,(0,()),false⟩
theorem zfI:Wf.OK prog:=eo zvf
def zfJ:FD:=FM qi
theorem zvg:FnX prog 153 zfJ (fun x=>yZ x.1):=
 OQ ⟨_,func153,by decide,rfl⟩ Go.Proofs.Tryz.zr4 rfl (by kernel_rfl) (by decide) (by decide) Go.Proofs.Tryz.sizeOf124
noncomputable def Pc:bf:=⟨153,zfJ,fun x=>yZ x.1,([],()),false⟩
theorem Wg:Pc.OK prog:=eo zvg
def zfK:FD:=⟨[p2,eG],[],p3,[]⟩
noncomputable def zvh:List EntX:=[.one rO]
theorem zvi:FnX prog 154 zfK (fun x=>za x.1 x.2.1):=fo zvh ⟨tk,trivial⟩ [] func154 rfl (fun x=>by kernel_rfl)
noncomputable def Pd:bf:=⟨154,zfK,fun x=>za x.1 x.2.1,(0,()),false⟩
theorem Wh:Pd.OK prog:=eo zvi
def zfL:FD:=⟨[qu,(1,ti),gB],[],[(0,FR)],[uq]⟩
def zvj:LT:=[(3,⟨[gB,(3,p4),(7,.leaf (.own 17 qi)),(12,.leaf (.own 17 qi)),(13,p1),qs],[qv,(17,.rows qi)],18,43⟩,0,⟨[(7,FR)],[uq],17,43⟩)]
noncomputable def zvk:List EntX:=[.one rO,.one Pd,.one Pc]
theorem zvl:FnX prog 102 zfL (fun x=>JJ x.1 x.2.1 x.2.2.1):=fo zvk ⟨tk,Wh,Wg,trivial⟩ zvj func102 rfl (fun x=>by kernel_rfl)
noncomputable def zfM:bf:=⟨102,zfL,fun x=>JJ x.1 x.2.1 x.2.2.1,([],()),false⟩
theorem zvm:zfM.OK prog:=eo zvl
def zfN:FD:=⟨[p2,(1,.leaf (.dq (.sl nK) 0)),(2,.leaf th)],[],e9,[]⟩
noncomputable def zvn:List EntX:=[]
theorem zvo:FnX prog 166 zfN (fun x=>Oe x.1 x.2.1 x.2.2.1):=fo zvn trivial [] func166 rfl (fun x=>by kernel_rfl)
noncomputable def zfO:bf:=⟨166,zfN,fun x=>Oe x.1 x.2.1 x.2.2.1,(false,()),false⟩
theorem zvp:zfO.OK prog:=eo zvo
def zfP:FD:=⟨[p2,p83],[],p3,[]⟩
def zvq:LT:=[(2,⟨[p83,(5,p1),mW],[],16,26⟩,0,⟨[(5,p1)],[],16,26⟩)]
noncomputable def zvr:List EntX:=[.one zfO]
theorem zvs:FnX prog 165 zfP (fun x=>JK x.1 x.2.1 x.2.2.1):=fo zvr ⟨zvp,trivial⟩ zvq func165 rfl (fun x=>by kernel_rfl)
noncomputable def zfQ:bf:=⟨165,zfP,fun x=>JK x.1 x.2.1 x.2.2.1,(0,()),false⟩
theorem zvt:zfQ.OK prog:=eo zvs
def zfR:FD:=⟨[(0,tf),mX],[],[p2,(1,mq)],[]⟩
noncomputable def zvu:List EntX:=[.one zfQ]
theorem zvv:FnX prog 107 zfR (fun x=>BI x.1 x.2.1):=fo zvu ⟨zvt,trivial⟩ [] func107 rfl (fun x=>by kernel_rfl)
noncomputable def Pe:bf:=⟨107,zfR,fun x=>BI x.1 x.2.1,(0,(false,())),false⟩
theorem Wi:Pe.OK prog:=eo zvv
def zfS:FD:=⟨[(0,tf),mX],[],[(0,.cP nK),(1,mq)],[]⟩
noncomputable def zvw:List EntX:=[.one Pe]
theorem zvx:FnX prog 79 zfS (fun x=>E9 x.1 x.2.1):=fo zvw ⟨Wi,trivial⟩ [] func79 rfl (fun x=>by kernel_rfl)
noncomputable def Wj:bf:=⟨79,zfS,fun x=>E9 x.1 x.2.1,((0,([],(0,(0,(0,(0,(0,0))))))),(false,())),false⟩
theorem zfT:Wj.OK prog:=eo zvx
def zfU:FD:=⟨[p2,(1,.leaf (.dq (.sl uf) 0)),(2,.leaf th)],[],e9,[]⟩
noncomputable def zvy:List EntX:=[]
theorem zvz:FnX prog 177 zfU (fun x=>Of x.1 x.2.1 x.2.2.1):=fo zvy trivial [] func177 rfl (fun x=>by kernel_rfl)
noncomputable def zfV:bf:=⟨177,zfU,fun x=>Of x.1 x.2.1 x.2.2.1,(false,()),false⟩
theorem zvA:zfV.OK prog:=eo zvz
def zfW:FD:=⟨[p2,p84],[],p3,[]⟩
def zvB:LT:=[(2,⟨[p84,(5,p1),mW],[],16,26⟩,0,⟨[(5,p1)],[],16,26⟩)]
noncomputable def zvC:List EntX:=[.one zfV]
theorem zvD:FnX prog 165 zfW (fun x=>JL x.1 x.2.1 x.2.2.1):=fo zvC ⟨zvA,trivial⟩ zvB func165 rfl (fun x=>by kernel_rfl)
noncomputable def zfX:bf:=⟨165,zfW,fun x=>JL x.1 x.2.1 x.2.2.1,(0,()),false⟩
theorem zvE:zfX.OK prog:=eo zvD
def zfY:FD:=⟨[(0,oF),mX],[],[p2,(1,mq)],[]⟩
noncomputable def zvF:List EntX:=[.one zfX]
theorem zvG:FnX prog 128 zfY (fun x=>BK x.1 x.2.1):=fo zvF ⟨zvE,trivial⟩ [] func128 rfl (fun x=>by kernel_rfl)
noncomputable def Pf:bf:=⟨128,zfY,fun x=>BK x.1 x.2.1,(0,(false,())),false⟩
theorem Wk:Pf.OK prog:=eo zvG
def zfZ:FD:=⟨[(0,oF),mX],[],[(0,FO)],[FP]⟩
noncomputable def zvH:List EntX:=[.one Pf]
theorem zvI:FnX prog 81 zfZ (fun x=>Fa x.1 x.2.1):=fo zvH ⟨Wk,trivial⟩ [] func81 rfl (fun x=>by kernel_rfl)
noncomputable def zf0:bf:=⟨81,zfZ,fun x=>Fa x.1 x.2.1,([],()),false⟩
theorem zvJ:zf0.OK prog:=eo zvI
def zf1:FD:=⟨[p2,eG,gB],[],e9,[]⟩
noncomputable def zvK:List EntX:=[.one Pd]
theorem zvL:FnX prog 127 zf1 (fun x=>vE x.1 x.2.1 x.2.2.1):=fo zvK ⟨Wh,trivial⟩ [] func127 rfl (fun x=>by kernel_rfl)
noncomputable def Cq:bf:=⟨127,zf1,fun x=>vE x.1 x.2.1 x.2.2.1,(false,()),false⟩
theorem F1:Cq.OK prog:=eo zvL
def zf2:FD:=⟨[qu,(1,rL),gB],[],[(0,FO)],[FP]⟩
def zvM:LT:=[(3,⟨[gB,(3,p4),(7,.leaf (.own 17 sJ)),(19,rL),(20,p1),(21,p1)],[(17,.rows sJ),qv],18,37⟩,0,⟨[(7,FO)],[FP],17,37⟩)]
noncomputable def zvN:List EntX:=[.one Cq]
theorem zvO:FnX prog 124 zf2 (fun x=>Fc x.1 x.2.1 x.2.2.1):=fo zvN ⟨F1,trivial⟩ zvM func124 rfl (fun x=>by kernel_rfl)
noncomputable def Wl:bf:=⟨124,zf2,fun x=>Fc x.1 x.2.1 x.2.2.1,([],()),false⟩
theorem zf3:Wl.OK prog:=eo zvO
def zf4:FD:=⟨KX,[],e9,[]⟩
noncomputable def zvP:List EntX:=[]
theorem zvQ:FnX prog 176 zf4 (fun x=>yO x.1):=fo zvP trivial [] func176 rfl (fun x=>by kernel_rfl)
noncomputable def Wm:bf:=⟨176,zf4,fun x=>yO x.1,(false,()),false⟩
theorem zf5:Wm.OK prog:=eo zvQ
def zf6:FD:=⟨[(0,rL)],[],e9,[]⟩
def zvR:LT:=[(3,⟨[(3,p4),(6,rL),j5,la],[(16,p86)],17,27⟩,0,⟨[],[],16,27⟩)]
noncomputable def zvS:List EntX:=[.one Wm]
theorem zvT:FnX prog 125 zf6 (fun x=>Fe x.1):=fo zvS ⟨zf5,trivial⟩ zvR func125 rfl (fun x=>by kernel_rfl)
noncomputable def Wn:bf:=⟨125,zf6,fun x=>Fe x.1,(false,()),false⟩
theorem zf7:Wn.OK prog:=eo zvT
def zf8:FD:=⟨[(0,.cP nK),(1,rL)],[],e9,[]⟩
def zvU:LT:=[(2,⟨[oH,(7,rL),la,(9,p1)],[(16,.cells [KV,.str,iw,iw,iw,iw,iw,iw])],17,31⟩,0,⟨[],[],16,31⟩)]
noncomputable def zvV:List EntX:=[.one Wm]
theorem zvW:FnX prog 126 zf8 (fun x=>Ff x.1 x.2.1):=fo zvV ⟨zf5,trivial⟩ zvU func126 rfl (fun x=>by kernel_rfl)
noncomputable def Wo:bf:=⟨126,zf8,fun x=>Ff x.1 x.2.1,(false,()),false⟩
theorem zf9:Wo.OK prog:=eo zvW
def zga:FD:=⟨[qu,(1,.leaf (.dq nK 0)),(2,rL),kZ],[],p3,[]⟩
noncomputable def zvX:List EntX:=[.one Cq,.one Wo,.one Wn,.one Wl]
theorem zvY:FnX prog 80 zga (fun x=>JO x.1 x.2.1 x.2.2.1 x.2.2.2.1):=fo zvX ⟨F1,zf9,zf7,zf3,trivial⟩ [] func80 rfl (fun x=>by kernel_rfl)
noncomputable def zgb:bf:=⟨80,zga,fun x=>JO x.1 x.2.1 x.2.2.1 x.2.2.2.1,(0,()),false⟩
theorem zvZ:zgb.OK prog:=eo zvY
def zgc:FD:=⟨[qu,(1,.leaf .jS),(2,rL),kZ],[],p3,[]⟩
noncomputable def zv0:List EntX:=[.one Cq,.one Wo,.one Wn,.one Wl]
theorem zv1:FnX prog 80 zgc (fun x=>JP x.1 x.2.1 x.2.2.1):=fo zv0 ⟨F1,zf9,zf7,zf3,trivial⟩ [] func80 rfl (fun x=>by kernel_rfl)
noncomputable def zgd:bf:=⟨80,zgc,fun x=>JP x.1 x.2.1 x.2.2.1,(0,()),false⟩
theorem zv2:zgd.OK prog:=eo zv1
def zge:FD:=⟨[qu,(1,.cP Bw),(2,pF)],[],p3,[]⟩
noncomputable def zv3:List EntX:=[.one zgd,.one zgb,.one zf0,.one Wj]
theorem zv4:FnX prog 26 zge (fun x=>rv x.1 x.2.1 x.2.2.1):=fo zv3 ⟨zv2,zvZ,zvJ,zfT,trivial⟩ [] func26 rfl (fun x=>by kernel_rfl)
noncomputable def F2:bf:=⟨26,zge,fun x=>rv x.1 x.2.1 x.2.2.1,(0,()),false⟩
theorem Lc:F2.OK prog:=eo zv4
def zgf:FD:=⟨[qt,mX,gB,kZ,(4,p1)],[],FT,[uq]⟩
noncomputable def zv5:List EntX:=[.one rO,.one K9,.one Pc,.one La]
theorem zv6:FnX prog 123 zgf (fun x=>cases_next x.1 x.2.1 x.2.2.1 x.2.2.2.1 x.2.2.2.2.1):=fo zv5 ⟨tk,O9,Wg,Pa,trivial⟩ [] func123 rfl (fun x=>by kernel_rfl)
noncomputable def Ld:bf:=⟨123,zgf,fun x=>cases_next x.1 x.2.1 x.2.2.1 x.2.2.2.1 x.2.2.2.2.1,(0,([],())),false⟩
theorem Pg:Ld.OK prog:=eo zv6
def zgg:FD:=⟨[qt,mX,gB],[],FT,[uq]⟩
noncomputable def zv7:List EntX:=[.one Ld,.one La]
theorem zv8:FnX prog 109 zgg (fun x=>xe x.1 x.2.1 x.2.2.1):=fo zv7 ⟨Pg,Pa,trivial⟩ [] func109 rfl (fun x=>by kernel_rfl)
noncomputable def Ph:bf:=⟨109,zgg,fun x=>xe x.1 x.2.1 x.2.2.1,(0,([],())),false⟩
theorem Wp:Ph.OK prog:=eo zv8
def zgh:FD:=⟨[qt,mX,gB],[],FT,[uq]⟩
noncomputable def zv9:List EntX:=[.one Ld]
theorem zwa:FnX prog 164 zgh (fun x=>JQ x.1 x.2.1 x.2.2.1):=fo zv9 ⟨Pg,trivial⟩ [] func164 rfl (fun x=>by kernel_rfl)
noncomputable def zgi:bf:=⟨164,zgh,fun x=>JQ x.1 x.2.1 x.2.2.1,(0,([],())),false⟩
theorem zwb:zgi.OK prog:=eo zwa
def zgj:FD:=⟨[(0,tf),mX],[],[(0,.leaf (.own 16 nK)),eG],[KY]⟩
noncomputable def zwc:List EntX:=[.one Pe]
theorem zwd:FnX prog 108 zgj (fun x=>Fg x.1 x.2.1):=fo zwc ⟨Wi,trivial⟩ [] func108 rfl (fun x=>by kernel_rfl)
noncomputable def Wq:bf:=⟨108,zgj,fun x=>Fg x.1 x.2.1,(0,([],())),false⟩
theorem zgk:Wq.OK prog:=eo zwd
def zgl:FD:=⟨KZ,[],[oG],[]⟩
def zwe:LT:=[(2,⟨[oH,tj,(4,uv),(8,ti),(9,p1),(10,p1)],[qv,(17,mY),(18,mY)],19,56⟩,0,⟨[(3,p4),(4,rM)],rN,18,56⟩)]
noncomputable def zwf:List EntX:=[.one Wq,.one zgi,.one Ph,.one F2]
theorem zwg:FnX prog 106 zgl (fun x=>JR x.1 x.2.1):=fo zwf ⟨zgk,zwb,Wp,Lc,trivial⟩ zwe func106 rfl (fun x=>by kernel_rfl)
noncomputable def zgm:bf:=⟨106,zgl,fun x=>JR x.1 x.2.1,((0,(0,([],([],([],([],[])))))),()),true⟩
theorem zwh:zgm.OK prog:=eo zwg
def zgn:FD:=⟨[(0,.cP qi),(1,.leaf th),(2,.leaf (.dq p5 0)),(3,.leaf (.dq Bv 0))],[],e9,[]⟩
noncomputable def zwi:List EntX:=[.one Cq]
theorem zwj:FnX prog 200 zgn (fun x=>Oq x.1 x.2.1 x.2.2.1 x.2.2.2.1):=fo zwi ⟨F1,trivial⟩ [] func200 rfl (fun x=>by kernel_rfl)
noncomputable def zgo:bf:=⟨200,zgn,fun x=>Oq x.1 x.2.1 x.2.2.1 x.2.2.2.1,(false,()),false⟩
theorem zwk:zgo.OK prog:=eo zwj
def zgp:FD:=⟨[qt,VW],[],p3,[]⟩
def zwl:LT:=[(2,⟨[qt,VW,j5,la],[],16,19⟩,0,⟨[],[],16,19⟩)]
noncomputable def zwm:List EntX:=[.one zgo]
theorem zwn:FnX prog 178 zgp (fun x=>Ot x.1 x.2.1 x.2.2.1 x.2.2.2.1):=fo zwm ⟨zwk,trivial⟩ zwl func178 rfl (fun x=>by kernel_rfl)
noncomputable def zgq:bf:=⟨178,zgp,fun x=>Ot x.1 x.2.1 x.2.2.1 x.2.2.2.1,(0,()),false⟩
theorem zwo:zgq.OK prog:=eo zwn
def zgr:FD:=⟨[qt,VW],[],e9,[]⟩
noncomputable def zwp:List EntX:=[.one zgq]
theorem zwq:FnX prog 199 zgr (fun x=>Ou x.1 x.2.1 x.2.2.1 x.2.2.2.1):=fo zwp ⟨zwo,trivial⟩ [] func199 rfl (fun x=>by kernel_rfl)
noncomputable def zgs:bf:=⟨199,zgr,fun x=>Ou x.1 x.2.1 x.2.2.1 x.2.2.2.1,(false,()),false⟩
theorem zwr:zgs.OK prog:=eo zwq
def zgt:FD:=⟨[qu,(1,ti),(2,pF),kZ],[],e9,[]⟩
noncomputable def zws:List EntX:=[.one zgs]
theorem zwt:FnX prog 183 zgt (fun x=>JS x.1 x.2.1 x.2.2.1 x.2.2.2.1):=fo zws ⟨zwr,trivial⟩ [] func183 rfl (fun x=>by kernel_rfl)
noncomputable def zgu:bf:=⟨183,zgt,fun x=>JS x.1 x.2.1 x.2.2.1 x.2.2.2.1,(false,()),false⟩
theorem zwu:zgu.OK prog:=eo zwt
def zgv:FD:=⟨[qu,(1,ti),gB],[],p3,[]⟩
def zwv:LT:=[(3,⟨[(1,ti),gB,(3,p4),j5,(10,ti),(11,p1),(12,p1)],[qv],17,47⟩,0,⟨[j5],[],16,47⟩)]
noncomputable def zww:List EntX:=[.one Cq,.one K9]
theorem zwx:FnX prog 184 zgv (fun x=>JU x.1 x.2.1 x.2.2.1):=fo zww ⟨F1,O9,trivial⟩ zwv func184 rfl (fun x=>by kernel_rfl)
noncomputable def zgw:bf:=⟨184,zgv,fun x=>JU x.1 x.2.1 x.2.2.1,(0,()),false⟩
theorem zwy:zgw.OK prog:=eo zwx
def zgx:FD:=OT qi
theorem zwz:FnX prog 185 zgx (fun x=>Ov x.1 x.2.1 x.2.2.1):=
 VO ⟨_,func185,by decide,rfl⟩ Go.Proofs.Tryz.zsa rfl (by kernel_rfl) (by decide) (by kernel_rfl) (by kernel_rfl) Go.Proofs.Tryz.zeroValue124 Go.Proofs.Tryz.sizeOf124
noncomputable def zgy:bf:=⟨185,zgx,fun x=>Ov x.1 x.2.1 x.2.2.1,([],()),false⟩
theorem zwA:zgy.OK prog:=eo zwz
def zgz:FD:=⟨[qu,(1,ti),(2,pF),kZ],[],FT,[uq]⟩
noncomputable def zwB:List EntX:=[.one rO,.one zgy,.one zgw,.one Pc,.one zgu,.one La]
theorem zwC:FnX prog 163 zgz (fun x=>JV x.1 x.2.1 x.2.2.1 x.2.2.2.1):=fo zwB ⟨tk,zwA,zwy,Wg,zwu,Pa,trivial⟩ [] func163 rfl (fun x=>by kernel_rfl)
noncomputable def zgA:bf:=⟨163,zgz,fun x=>JV x.1 x.2.1 x.2.2.1 x.2.2.2.1,(0,([],())),false⟩
theorem zwD:zgA.OK prog:=eo zwC
def zgB:FD:=⟨KZ,[],[oG],[]⟩
def zwE:LT:=[(2,⟨[oH,tj,(4,uv),(10,tf),(11,p1),(12,p1)],[qv,(17,mY),(18,mY)],19,39⟩,0,⟨[(3,p4),(4,rM)],rN,18,39⟩)]
noncomputable def zwF:List EntX:=[.one zgA,.one F2]
theorem zwG:FnX prog 105 zgB (fun x=>JW x.1 x.2.1):=fo zwF ⟨zwD,Lc,trivial⟩ zwE func105 rfl (fun x=>by kernel_rfl)
noncomputable def zgC:bf:=⟨105,zgB,fun x=>JW x.1 x.2.1,((0,(0,([],([],([],([],[])))))),()),true⟩
theorem zwH:zgC.OK prog:=eo zwG
def zgD:FD:=⟨[(0,oF),mX],[],[p2,(1,mq)],[]⟩
noncomputable def zwI:List EntX:=[.one Pf]
theorem zwJ:FnX prog 162 zgD (fun x=>Fi x.1 x.2.1):=fo zwI ⟨Wk,trivial⟩ [] func162 rfl (fun x=>by kernel_rfl)
noncomputable def Wr:bf:=⟨162,zgD,fun x=>Fi x.1 x.2.1,(0,(false,())),false⟩
theorem zgE:Wr.OK prog:=eo zwJ
def zgF:FD:=⟨[(0,pF),(1,.leaf rJ),(2,.leaf oD)],[vH,OZ],e9,[vH,OZ]⟩
noncomputable def zwK:List EntX:=[.one Cq,.one Wr,.one Wj]
theorem zwL:FnX prog 161 zgF (fun x=>JY x.1 x.2.1 x.2.2.1 x.2.2.2.1 x.2.2.2.2.1 x.2.2.2.2.2.1 x.2.2.2.2.2.2.1 x.2.2.2.2.2.2.2.1 x.2.2.2.2.2.2.2.2.1 x.2.2.2.2.2.2.2.2.2.1 x.2.2.2.2.2.2.2.2.2.2.1 x.2.2.2.2.2.2.2.2.2.2.2.1 x.2.2.2.2.2.2.2.2.2.2.2.2.1 x.2.2.2.2.2.2.2.2.2.2.2.2.2.1 x.2.2.2.2.2.2.2.2.2.2.2.2.2.2.1 x.2.2.2.2.2.2.2.2.2.2.2.2.2.2.2.1 x.2.2.2.2.2.2.2.2.2.2.2.2.2.2.2.2.1):=fo zwK ⟨F1,zgE,zfT,trivial⟩ [] func161 rfl (fun x=>by kernel_rfl)
noncomputable def zgG:bf:=⟨161,zgF,fun x=>JY x.1 x.2.1 x.2.2.1 x.2.2.2.1 x.2.2.2.2.1 x.2.2.2.2.2.1 x.2.2.2.2.2.2.1 x.2.2.2.2.2.2.2.1 x.2.2.2.2.2.2.2.2.1 x.2.2.2.2.2.2.2.2.2.1 x.2.2.2.2.2.2.2.2.2.2.1 x.2.2.2.2.2.2.2.2.2.2.2.1 x.2.2.2.2.2.2.2.2.2.2.2.2.1 x.2.2.2.2.2.2.2.2.2.2.2.2.2.1 x.2.2.2.2.2.2.2.2.2.2.2.2.2.2.1 x.2.2.2.2.2.2.2.2.2.2.2.2.2.2.2.1 x.2.2.2.2.2.2.2.2.2.2.2.2.2.2.2.2.1,(false,(0,(0,([],([],([],([],([],(0,(0,(0,(0,(0,(0,(0,(0,(0,()))))))))))))))))),true⟩
theorem zwM:zgG.OK prog:=eo zwL
def zgH:FD:=⟨[(0,oF),(1,.fn 161 [] [rJ,oD])],[(0,mY),(1,.cP Bv)],[(0,.leaf (.own 16 uf))],[(0,mY),(1,.cP Bv),Ck]⟩
def zwN:LT:=[(3,⟨[(1,.fn 161 [] [rJ,oD]),OX,(8,oF),(9,p1),(10,p1)],[Ck,vH,OZ],17,24⟩,0,⟨[OX],[vH,OZ,Ck],17,24⟩)]
noncomputable def zwO:List EntX:=[.one zgG]
theorem zwP:FnX prog 160 zgH (fun x=>Ow x.1 x.2.1 x.2.2.1):=fo zwO ⟨zwM,trivial⟩ zwN func160 rfl (fun x=>by kernel_rfl)
noncomputable def zgI:bf:=⟨160,zgH,fun x=>Ow x.1 x.2.1 x.2.2.1,((0,(0,([],([],([],([],[])))))),((0,(0,(0,(0,(0,(0,(0,(0,0)))))))),([],()))),true⟩
theorem zwQ:zgI.OK prog:=eo zwP
def zgJ:FD:=⟨KZ,[],[oG],[]⟩
noncomputable def zwR:List EntX:=[.one zgI]
theorem zwS:FnX prog 104 zgJ (fun x=>JZ x.1 x.2.1):=fo zwR ⟨zwQ,trivial⟩ [] func104 rfl (fun x=>by kernel_rfl)
noncomputable def zgK:bf:=⟨104,zgJ,fun x=>JZ x.1 x.2.1,((0,(0,([],([],([],([],[])))))),()),true⟩
theorem zwT:zgK.OK prog:=eo zwS
def zgL:FD:=⟨[qu,(1,vG),gB,kZ],[],[(0,FQ),(1,vG)],[(16,uo)]⟩
def zwU:LT:=[(3,⟨[gB,kZ,(4,p4),(10,.leaf (.own 17 iU)),(11,.leaf (.own 18 iU)),(14,vG),(15,p1),(16,p1)],[(17,uo),(18,uo),qv],19,58⟩,0,⟨[(10,FQ),(11,.leaf (.own 17 iU))],[(16,uo),(17,uo)],18,58⟩)]
noncomputable def zwV:List EntX:=[.one rO,.one Pd]
theorem zwW:FnX prog 155 zgL (fun x=>J0 x.1 x.2.1 x.2.2.1 x.2.2.2.1):=fo zwV ⟨tk,Wh,trivial⟩ zwU func155 rfl (fun x=>by kernel_rfl)
noncomputable def zgM:bf:=⟨155,zgL,fun x=>J0 x.1 x.2.1 x.2.2.1 x.2.2.2.1,([],([],())),true⟩
theorem zwX:zgM.OK prog:=eo zwW
def zgN:FD:=⟨[(0,.cP iU)],[],[(0,.cP kV)],[]⟩
noncomputable def zwY:List EntX:=[]
theorem zwZ:FnX prog 156 zgN (fun x=>Fl x.1):=fo zwY trivial [] func156 rfl (fun x=>by kernel_rfl)
noncomputable def zgO:bf:=⟨156,zgN,fun x=>Fl x.1,((false,(0,(0,((0,(0,(0,(0,(0,0))))),(0,0))))),()),false⟩
theorem zw0:zgO.OK prog:=eo zwZ
def zgP:FD:=FM mg
theorem zw1:FnX prog 115 zgP (fun x=>yV x.1):=
 OQ ⟨_,func115,by decide,rfl⟩ Go.Proofs.Tryz.zrY rfl (by kernel_rfl) (by decide) (by decide) Go.Proofs.Tryz.sizeOf106
noncomputable def Pj:bf:=⟨115,zgP,fun x=>yV x.1,([],()),false⟩
theorem Ws:Pj.OK prog:=eo zw1
def zgQ:FD:=⟨[p2,eG,(2,.leaf (.dq (.sl mg) 0))],[],p3,[]⟩
noncomputable def zw2:List EntX:=[]
theorem zw3:FnX prog 198 zgQ (fun x=>JA x.1 x.2.1 x.2.2.1):=fo zw2 trivial [] func198 rfl (fun x=>by kernel_rfl)
noncomputable def zgR:bf:=⟨198,zgQ,fun x=>JA x.1 x.2.1 x.2.2.1,(0,()),false⟩
theorem zw4:zgR.OK prog:=eo zw3
def zgS:FD:=⟨[uw,eG,gB,(3,ux)],oI,[],oI⟩
def zw5:LT:=[(1,⟨[uw,eG,gB,(3,ux),la],oI,16,53⟩,0,⟨[],oI,16,53⟩),(4,⟨[uw,eG,gB,(3,ux),la,(9,p1)],oI,16,53⟩,2,⟨[uw,eG,gB,(3,ux),la],oI,16,53⟩)]
noncomputable def zw6:List EntX:=[.one zgR]
theorem zw7:FnX prog 208 zgS (fun x=>E7 x.1 x.2.1 x.2.2.1 x.2.2.2.1):=fo zw6 ⟨zw4,trivial⟩ zw5 func208 rfl (fun x=>by kernel_rfl)
noncomputable def zgT:bf:=⟨208,zgS,fun x=>E7 x.1 x.2.1 x.2.2.1 x.2.2.2.1,([],([],())),true⟩
theorem zw8:zgT.OK prog:=eo zw7
def zgU:FD:=⟨[(0,.leaf (.sl p5)),eG,gB,kZ,(4,.fn 198 [] [.dq (.sl mg) 0])],[],[],[]⟩
theorem zw9:FnX prog 209 zgU (fun x=>N9 x.1 x.2.1 x.2.2.1 x.2.2.2.1 x.2.2.2.2.1):=FnX.none ⟨_,func209,by decide,rfl⟩
noncomputable def zgV:bf:=⟨209,zgU,fun x=>N9 x.1 x.2.1 x.2.2.1 x.2.2.2.1 x.2.2.2.2.1,(),false⟩
theorem zxa:zgV.OK prog:=eo zw9
def zgW:FD:=⟨[uw,eG,(2,ux)],oI,[],oI⟩
def zxb:LT:=[(2,⟨[uw,eG,(2,ux),mW,j5,la],oI,16,63⟩,0,⟨[uw,eG,(2,ux),mW,j5],oI,16,63⟩),(7,⟨[uw,eG,(2,ux),mW],oI,16,63⟩,2,⟨[],oI,16,63⟩),(9,⟨[uw,eG,(2,ux),mW,j5,la],oI,16,63⟩,4,⟨[uw,eG,(2,ux),mW,j5],oI,16,63⟩)]
noncomputable def zxc:List EntX:=[.one zgV,.one zgT]
theorem zxd:FnX prog 206 zgW (fun x=>Oa x.1 x.2.1 x.2.2.1):=fo zxc ⟨zxa,zw8,trivial⟩ zxb func206 rfl (fun x=>by kernel_rfl)
noncomputable def zgX:bf:=⟨206,zgW,fun x=>Oa x.1 x.2.1 x.2.2.1,([],([],())),true⟩
theorem zxe:zgX.OK prog:=eo zxd
def zgY:FD:=⟨[uw,(1,ux)],oI,[],oI⟩
noncomputable def zxf:List EntX:=[.one zgX]
theorem zxg:FnX prog 197 zgY (fun x=>JF x.1 x.2.1):=fo zxf ⟨zxe,trivial⟩ [] func197 rfl (fun x=>by kernel_rfl)
noncomputable def zgZ:bf:=⟨197,zgY,fun x=>JF x.1 x.2.1,([],([],())),true⟩
theorem zxh:zgZ.OK prog:=eo zxg
def zg0:FD:=⟨[uu,eG],[],[(0,.leaf (.own 16 p5))],[(16,.rows p5)]⟩
def zxi:LT:=[(3,⟨[eG,oH,(5,.leaf (.own 17 p5)),(8,Cl),(9,p1),(10,p1)],[(17,.rows p5),(16,.cells [ur])],18,28⟩,0,⟨[oH,(5,.leaf (.own 17 p5))],[(16,.cells [ur]),(17,.rows p5)],18,28⟩)]
noncomputable def zxj:List EntX:=[.one zgZ]
theorem zxk:FnX prog 180 zg0 (fun x=>JH x.1 x.2.1):=fo zxj ⟨zxh,trivial⟩ zxi func180 rfl (fun x=>by kernel_rfl)
noncomputable def zg1:bf:=⟨180,zg0,fun x=>JH x.1 x.2.1,([],()),false⟩
theorem zxl:zg1.OK prog:=eo zxk
def zg2:FD:=⟨[(0,.cP kq),eG],[],[(0,pF),(1,mq)],[]⟩
noncomputable def zxm:List EntX:=[.one K8]
theorem zxn:FnX prog 181 zg2 (fun x=>II x.1 x.2.1):=fo zxm ⟨O8,trivial⟩ [] func181 rfl (fun x=>by kernel_rfl)
noncomputable def zg3:bf:=⟨181,zg2,fun x=>II x.1 x.2.1,(0,(false,())),false⟩
theorem zxo:zg3.OK prog:=eo zxn
def zg4:FD:=⟨[qu,(1,Cl),gB,kZ],[],[(0,Ci),(1,.leaf (.sl xq))],[Cj]⟩
def zxp:LT:=[(4,⟨[kZ,(4,p4),(10,.leaf (.own 17 mg)),(11,.leaf (.own 18 xq)),(21,.leaf (.own 19 p5)),(22,p1),(23,p1)],[(18,.rows xq),qv,(17,.rows mg),(19,.rows p5)],20,95⟩,0,⟨[(10,Ci),(11,.leaf (.own 17 xq))],[Cj,(17,.rows xq)],18,95⟩),(7,⟨zdE,zdF,20,95⟩,2,⟨zdE,zdF,20,95⟩)]
noncomputable def zxq:List EntX:=[.one Wf,.one zg3,.one K8,.one zg1,.one Pj]
theorem zxr:FnX prog 157 zg4 (fun x=>zb x.1 x.2.1 x.2.2.1 x.2.2.2.1):=fo zxq ⟨zfI,zxo,O8,zxl,Ws,trivial⟩ zxp func157 rfl (fun x=>by kernel_rfl)
noncomputable def zg5:bf:=⟨157,zg4,fun x=>zb x.1 x.2.1 x.2.2.1 x.2.2.2.1,([],([],())),true⟩
theorem zxs:zg5.OK prog:=eo zxr
def zg6:FD:=⟨[(0,pF),eG,gB],[],[(0,.cP iU)],[]⟩
noncomputable def zxt:List EntX:=[.one rO]
theorem zxu:FnX prog 158 zg6 (fun x=>J2 x.1 x.2.1 x.2.2.1):=fo zxt ⟨tk,trivial⟩ [] func158 rfl (fun x=>by kernel_rfl)
noncomputable def zg7:bf:=⟨158,zg6,fun x=>J2 x.1 x.2.1 x.2.2.1,((0,(0,(0,(0,0)))),()),false⟩
theorem zxv:zg7.OK prog:=eo zxu
def zg8:FD:=⟨[(0,.cP iU),(1,.leaf (.dq iU 0))],[],e9,[]⟩
noncomputable def zxw:List EntX:=[]
theorem zxx:FnX prog 182 zg8 (fun x=>OA x.1 x.2.1):=fo zxw trivial [] func182 rfl (fun x=>by kernel_rfl)
noncomputable def zg9:bf:=⟨182,zg8,fun x=>OA x.1 x.2.1,(false,()),false⟩
theorem zxy:zg9.OK prog:=eo zxx
def zha:FD:=⟨[tg,(1,.fn 182 [] [.dq iU 0])],[],p3,[]⟩
def zxz:LT:=[(2,⟨[tg,(1,.fn 182 [] [.dq iU 0]),j5,la],[],16,19⟩,0,⟨[],[],16,19⟩)]
noncomputable def zxA:List EntX:=[.one zg9]
theorem zxB:FnX prog 171 zha (fun x=>OB x.1 x.2.1):=fo zxA ⟨zxy,trivial⟩ zxz func171 rfl (fun x=>by kernel_rfl)
noncomputable def zhb:bf:=⟨171,zha,fun x=>OB x.1 x.2.1,(0,()),false⟩
theorem zxC:zhb.OK prog:=eo zxB
def zhc:FD:=⟨[tg,(1,.fn 182 [] [.dq iU 0])],[],e9,[]⟩
noncomputable def zxD:List EntX:=[.one zhb]
theorem zxE:FnX prog 147 zhc (fun x=>J3 x.1 x.2.1):=fo zxD ⟨zxC,trivial⟩ [] func147 rfl (fun x=>by kernel_rfl)
noncomputable def zhd:bf:=⟨147,zhc,fun x=>J3 x.1 x.2.1,(false,()),false⟩
theorem zxF:zhd.OK prog:=eo zxE
def zhe:FD:=FM iU
theorem zxG:FnX prog 174 zhe (fun x=>Fm x.1):=
 OQ ⟨_,func174,by decide,rfl⟩ Go.Proofs.Tryz.zr8 rfl (by kernel_rfl) (by decide) (by decide) Go.Proofs.Tryz.sizeOf119
noncomputable def Wt:bf:=⟨174,zhe,fun x=>Fm x.1,([],()),false⟩
theorem zhf:Wt.OK prog:=eo zxG
def zhg:FD:=⟨[tg,(1,.cP iU)],[],[(0,FQ),eG],[(16,uo)]⟩
noncomputable def zxH:List EntX:=[.one Wt,.one zhd]
theorem zxI:FnX prog 159 zhg (fun x=>J4 x.1 x.2.1):=fo zxH ⟨zhf,zxF,trivial⟩ [] func159 rfl (fun x=>by kernel_rfl)
noncomputable def zhh:bf:=⟨159,zhg,fun x=>J4 x.1 x.2.1,(0,([],())),false⟩
theorem zxJ:zhh.OK prog:=eo zxI
def zhi:FD:=⟨KZ,[],[oG,(1,.leaf (.own 16 kV))],[(16,.rows kV)]⟩
def zxK:LT:=[(4,⟨[oH,tj,(4,uv),(6,.leaf (.own 19 kV)),(7,.leaf (.own 20 iU)),(8,vG),(30,vG),(31,p1),(32,p1)],[(19,.rows kV),qv,(17,mY),(18,mY),(20,uo)],21,102⟩,0,⟨[oH,tj,(4,uv),(6,.leaf (.own 19 kV)),(7,.leaf (.own 20 iU)),(8,vG)],[qv,(17,mY),(18,mY),(19,.rows kV),(20,uo)],21,102⟩),(13,⟨[(3,p4),(4,rM),(6,.leaf (.own 18 kV)),(66,.leaf (.sl xq)),(67,p1),(68,p1)],[(16,mY),(17,mY),(18,.rows kV)],19,102⟩,2,⟨[(3,p4),(4,rM),(6,.leaf (.own 18 kV))],[(16,mY),(17,mY),(18,.rows kV)],19,102⟩)]
noncomputable def zxL:List EntX:=[.one zhh,.one zg7,.one zg5,.one zgO,.one zgM]
theorem zxM:FnX prog 103 zhi (fun x=>J5 x.1 x.2.1):=fo zxL ⟨zxJ,zxv,zxs,zw0,zwX,trivial⟩ zxK func103 rfl (fun x=>by kernel_rfl)
noncomputable def zhj:bf:=⟨103,zhi,fun x=>J5 x.1 x.2.1,((0,(0,([],([],([],([],[])))))),([],())),true⟩
theorem zxN:zhj.OK prog:=eo zxM
def zhk:FD:=⟨KZ,[],[oG,(1,.leaf (.own 16 kV))],[(16,.rows kV)]⟩
noncomputable def zxO:List EntX:=[.one zhj,.one zgK,.one zgC,.one zgm,.one zfM,.one Wf]
theorem zxP:FnX prog 68 zhk (fun x=>J6 x.1 x.2.1):=fo zxO ⟨zxN,zwT,zwH,zwh,zvm,zfI,trivial⟩ [] func68 rfl (fun x=>by kernel_rfl)
noncomputable def zhl:bf:=⟨68,zhk,fun x=>J6 x.1 x.2.1,((0,(0,([],([],([],([],[])))))),([],())),true⟩
theorem zxQ:zhl.OK prog:=eo zxP
def zhm:FD:=⟨[(0,tf),(1,.cP nK)],[],[(0,.leaf (.own 16 nK)),eG],[KY]⟩
noncomputable def zxR:List EntX:=[.one O7,.one Pe]
theorem zxS:FnX prog 69 zhm (fun x=>J7 x.1 x.2.1):=fo zxR ⟨Wa,Wi,trivial⟩ [] func69 rfl (fun x=>by kernel_rfl)
noncomputable def zhn:bf:=⟨69,zhm,fun x=>J7 x.1 x.2.1,(0,([],())),false⟩
theorem zxT:zhn.OK prog:=eo zxS
def zho:FD:=⟨[(0,.leaf (.ptr 0 2)),(1,tf),gB],[vH],p3,[vH]⟩
noncomputable def zxU:List EntX:=[]
theorem zxV:FnX prog 70 zho (fun x=>OE x.1 x.2.1 x.2.2.1 x.2.2.2.1 x.2.2.2.2.1 x.2.2.2.2.2.1 x.2.2.2.2.2.2.1 x.2.2.2.2.2.2.2.1 x.2.2.2.2.2.2.2.2.1):=fo zxU trivial [] func70 rfl (fun x=>by kernel_rfl)
noncomputable def zhp:bf:=⟨70,zho,fun x=>OE x.1 x.2.1 x.2.2.1 x.2.2.2.1 x.2.2.2.2.1 x.2.2.2.2.2.1 x.2.2.2.2.2.2.1 x.2.2.2.2.2.2.2.1 x.2.2.2.2.2.2.2.2.1,(0,(0,(0,([],([],([],([],([],())))))))),true⟩
theorem zxW:zhp.OK prog:=eo zxV
def zhq:FD:=⟨[oG,mX],[],[oG,eG],[]⟩
noncomputable def zxX:List EntX:=[.one Ph,.one Wq]
theorem zxY:FnX prog 71 zhq (fun x=>J8 x.1 x.2.1):=fo zxX ⟨Wp,zgk,trivial⟩ [] func71 rfl (fun x=>by kernel_rfl)
noncomputable def zhr:bf:=⟨71,zhq,fun x=>J8 x.1 x.2.1,((0,(0,([],([],([],([],[])))))),(0,())),true⟩
theorem zxZ:zhr.OK prog:=eo zxY
def zhs:FD:=⟨[(0,.cP mg),(1,.leaf (.dq kq 0))],[],e9,[]⟩
noncomputable def zx0:List EntX:=[.one Wc]
theorem zx1:FnX prog 113 zhs (fun x=>N6 x.1 x.2.1):=fo zx0 ⟨zfd,trivial⟩ [] func113 rfl (fun x=>by kernel_rfl)
noncomputable def zht:bf:=⟨113,zhs,fun x=>N6 x.1 x.2.1,(false,()),false⟩
theorem zx2:zht.OK prog:=eo zx1
def zhu:FD:=⟨[uu,(1,.fn 113 [] [.dq kq 0])],[],p3,[]⟩
def zx3:LT:=[(2,⟨[uu,(1,.fn 113 [] [.dq kq 0]),j5,la],[],16,19⟩,0,⟨[],[],16,19⟩)]
noncomputable def zx4:List EntX:=[.one zht]
theorem zx5:FnX prog 118 zhu (fun x=>N7 x.1 x.2.1):=fo zx4 ⟨zx2,trivial⟩ zx3 func118 rfl (fun x=>by kernel_rfl)
noncomputable def zhv:bf:=⟨118,zhu,fun x=>N7 x.1 x.2.1,(0,()),false⟩
theorem zx6:zhv.OK prog:=eo zx5
def zhw:FD:=⟨[uu,(1,.fn 113 [] [.dq kq 0])],[],e9,[]⟩
noncomputable def zx7:List EntX:=[.one zhv]
theorem zx8:FnX prog 112 zhw (fun x=>Jy x.1 x.2.1):=fo zx7 ⟨zx6,trivial⟩ [] func112 rfl (fun x=>by kernel_rfl)
noncomputable def zhx:bf:=⟨112,zhw,fun x=>Jy x.1 x.2.1,(false,()),false⟩
theorem zx9:zhx.OK prog:=eo zx8
end Go.Tr
namespace Go.Proofs
open Go Go.Shelf Go.RowKit Go.Lib Go.Sort
open Go.Proofs.Tryz
theorem zya(x y:((Int×Int)×Int×Int))(W:World):Calls prog 117 #[.agg #[.int .u32 x.1.1,.int .i64 x.1.2,.int .i64 x.2.1,.int .i64 x.2.2],.agg #[.int .u32 y.1.1,.int .i64 y.1.2,.int .i64 y.2.1,.int .i64 y.2.2]] W fun en w'=>∃ c,Go.Tr.ql x y=some (c,())/\en=.returned (.int .i64 c)/\∃ q VG,w'=grow (W.drewN q) VG:=by
 go_enter func117,Go.Proofs.Tryz.ntmps117
 go_wp2
 go_ret
 refine⟨_,rfl,?_,0,_,by rw[alloc_eq_grow,alloc_eq_grow,grow_grow];rfl⟩
 simp only[IntWalk.i64_left]
 rfl
end Go.Proofs
namespace Go.Tr
open Go
open Go.Proofs.Tryz
set_option linter.unusedVariables false
set_option maxRecDepth 100000
def zhy:FD:=zds mg 117
theorem zyb:FnX prog 116 zhy (fun x=>Jz x.1):=
 zrE (e:=mg) ⟨_,func116,by decide,rfl⟩ Go.Proofs.Tryz.zr0 rfl (by decide) Go.Proofs.Tryz.isAgg106 Go.Proofs.Tryz.sizeOf106 (Go.Proofs.enters_of func117 (by kernel_rfl) rfl) (by decide) Go.Proofs.zya (fun x y=>⟨_,rfl⟩)
noncomputable def zhz:bf:=⟨116,zhy,fun x=>Jz x.1,([],()),false⟩
theorem zyc:zhz.OK prog:=eo zyb
def zhA:FD:=⟨[uu,(1,.cP kq),gB],[],[(0,Ci),eG],[Cj]⟩
noncomputable def zyd:List EntX:=[.one zhz,.one rO,.one Pj,.one zhx,.one K8,.one F0]
theorem zye:FnX prog 72 zhA (fun x=>yW x.1 x.2.1 x.2.2.1):=fo zyd ⟨zyc,tk,Ws,zx9,O8,K7,trivial⟩ [] func72 rfl (fun x=>by kernel_rfl)
noncomputable def zhB:bf:=⟨72,zhA,fun x=>yW x.1 x.2.1 x.2.2.1,(0,([],())),false⟩
theorem zyf:zhB.OK prog:=eo zye
def zhC:FD:=⟨[(0,.leaf (.ptr 0 3)),(1,Cl),gB],[vH],p3,[vH]⟩
noncomputable def zyg:List EntX:=[]
theorem zyh:FnX prog 73 zhC (fun x=>Fq x.1 x.2.1 x.2.2.1 x.2.2.2.1 x.2.2.2.2.1 x.2.2.2.2.2.1 x.2.2.2.2.2.2.1 x.2.2.2.2.2.2.2.1 x.2.2.2.2.2.2.2.2.1):=fo zyg trivial [] func73 rfl (fun x=>by kernel_rfl)
noncomputable def zhD:bf:=⟨73,zhC,fun x=>Fq x.1 x.2.1 x.2.2.1 x.2.2.2.1 x.2.2.2.2.1 x.2.2.2.2.2.1 x.2.2.2.2.2.2.1 x.2.2.2.2.2.2.2.1 x.2.2.2.2.2.2.2.2.1,(0,(0,(0,([],([],([],([],([],())))))))),true⟩
theorem zyi:zhD.OK prog:=eo zyh
def zhE:FD:=⟨[(0,.cP mg),(1,.leaf (.dq kq 0))],[],e9,[]⟩
noncomputable def zyj:List EntX:=[]
theorem zyk:FnX prog 119 zhE (fun x=>Oc x.1 x.2.1):=fo zyj trivial [] func119 rfl (fun x=>by kernel_rfl)
noncomputable def zhF:bf:=⟨119,zhE,fun x=>Oc x.1 x.2.1,(false,()),false⟩
theorem zyl:zhF.OK prog:=eo zyk
def zhG:FD:=⟨[uu,(1,.fn 119 [] [.dq kq 0])],[],p3,[]⟩
def zym:LT:=[(2,⟨[uu,(1,.fn 119 [] [.dq kq 0]),j5,la],[],16,19⟩,0,⟨[],[],16,19⟩)]
noncomputable def zyn:List EntX:=[.one zhF]
theorem zyo:FnX prog 118 zhG (fun x=>JI x.1 x.2.1):=fo zyn ⟨zyl,trivial⟩ zym func118 rfl (fun x=>by kernel_rfl)
noncomputable def zhH:bf:=⟨118,zhG,fun x=>JI x.1 x.2.1,(0,()),false⟩
theorem zyp:zhH.OK prog:=eo zyo
def zhI:FD:=OT mg
theorem zyq:FnX prog 120 zhI (fun x=>Od x.1 x.2.1 x.2.2.1):=
 VO ⟨_,func120,by decide,rfl⟩ Go.Proofs.Tryz.zr2 rfl (by kernel_rfl) (by decide) (by kernel_rfl) (by kernel_rfl) Go.Proofs.Tryz.zeroValue106 Go.Proofs.Tryz.sizeOf106
noncomputable def zhJ:bf:=⟨120,zhI,fun x=>Od x.1 x.2.1 x.2.2.1,([],()),false⟩
theorem zyr:zhJ.OK prog:=eo zyq
def zhK:FD:=⟨[uu,(1,.cP kq)],[],[(0,Ci),eG],[Cj]⟩
noncomputable def zys:List EntX:=[.one zhJ,.one Pj,.one zhH]
theorem zyt:FnX prog 74 zhK (fun x=>yY x.1 x.2.1):=fo zys ⟨zyr,Ws,zyp,trivial⟩ [] func74 rfl (fun x=>by kernel_rfl)
noncomputable def zhL:bf:=⟨74,zhK,fun x=>yY x.1 x.2.1,(0,([],())),false⟩
theorem zyu:zhL.OK prog:=eo zyt
def zhM:FD:=⟨[(0,.cP iU),(1,.leaf th)],[],e9,[]⟩
noncomputable def zyv:List EntX:=[]
theorem zyw:FnX prog 172 zhM (fun x=>OF x.1 x.2.1):=fo zyv trivial [] func172 rfl (fun x=>by kernel_rfl)
noncomputable def zhN:bf:=⟨172,zhM,fun x=>OF x.1 x.2.1,(false,()),false⟩
theorem zyx:zhN.OK prog:=eo zyw
def zhO:FD:=⟨[tg,(1,.fn 172 [] [th])],[],p3,[]⟩
def zyy:LT:=[(2,⟨[tg,(1,.fn 172 [] [th]),j5,la],[],16,19⟩,0,⟨[],[],16,19⟩)]
noncomputable def zyz:List EntX:=[.one zhN]
theorem zyA:FnX prog 171 zhO (fun x=>J9 x.1 x.2.1):=fo zyz ⟨zyx,trivial⟩ zyy func171 rfl (fun x=>by kernel_rfl)
noncomputable def zhP:bf:=⟨171,zhO,fun x=>J9 x.1 x.2.1,(0,()),false⟩
theorem zyB:zhP.OK prog:=eo zyA
def zhQ:FD:=OT iU
theorem zyC:FnX prog 173 zhQ (fun x=>OG x.1 x.2.1 x.2.2.1):=
 VO ⟨_,func173,by decide,rfl⟩ Go.Proofs.Tryz.zr6 rfl (by kernel_rfl) (by decide) (by kernel_rfl) (by kernel_rfl) Go.Proofs.Tryz.zeroValue119 Go.Proofs.Tryz.sizeOf119
noncomputable def zhR:bf:=⟨173,zhQ,fun x=>OG x.1 x.2.1 x.2.2.1,([],()),false⟩
theorem zyD:zhR.OK prog:=eo zyC
def zhS:FD:=⟨[oG,mX],[],[oG,eG],[]⟩
noncomputable def zyE:List EntX:=[.one zhR,.one Wt,.one zhP]
theorem zyF:FnX prog 121 zhS (fun x=>Ka x.1 x.2.1):=fo zyE ⟨zyD,zhf,zyB,trivial⟩ [] func121 rfl (fun x=>by kernel_rfl)
noncomputable def zhT:bf:=⟨121,zhS,fun x=>Ka x.1 x.2.1,((0,(0,([],([],([],([],[])))))),(0,())),true⟩
theorem zyG:zhT.OK prog:=eo zyF
def zhU:FD:=⟨[(0,rL),(1,.cP sJ)],[],[(0,rL)],[]⟩
noncomputable def zyH:List EntX:=[]
theorem zyI:FnX prog 175 zhU (fun x=>Kb x.1 x.2.1):=fo zyH trivial [] func175 rfl (fun x=>by kernel_rfl)
noncomputable def zhV:bf:=⟨175,zhU,fun x=>Kb x.1 x.2.1,([],()),true⟩
theorem zyJ:zhV.OK prog:=eo zyI
def zhW:FD:=⟨[(0,oF),mX,(2,.cP sJ)],[],[(0,.leaf (.own 16 uf)),eG],[Ck]⟩
noncomputable def zyK:List EntX:=[.one zhV,.one Wr,.one Pf]
theorem zyL:FnX prog 122 zhW (fun x=>BV x.1 x.2.1 x.2.2.1):=fo zyK ⟨zyJ,zgE,Wk,trivial⟩ [] func122 rfl (fun x=>by kernel_rfl)
noncomputable def zhX:bf:=⟨122,zhW,fun x=>BV x.1 x.2.1 x.2.2.1,(0,([],())),true⟩
theorem zyM:zhX.OK prog:=eo zyL
def zhY:FD:=⟨[oG,(1,.cP nL)],[],[oG,eG],[]⟩
noncomputable def zyN:List EntX:=[.one Ph,.one zhX,.one zhT]
theorem zyO:FnX prog 75 zhY (fun x=>Kc x.1 x.2.1):=fo zyN ⟨Wp,zyM,zyG,trivial⟩ [] func75 rfl (fun x=>by kernel_rfl)
noncomputable def zhZ:bf:=⟨75,zhY,fun x=>Kc x.1 x.2.1,((0,(0,([],([],([],([],[])))))),(0,())),true⟩
theorem zyP:zhZ.OK prog:=eo zyO
def zh0:FD:=⟨[qt,mX,gB],[],FT,[uq]⟩
noncomputable def zyQ:List EntX:=[.one Ld]
theorem zyR:FnX prog 76 zh0 (fun x=>Kd x.1 x.2.1 x.2.2.1):=fo zyQ ⟨Pg,trivial⟩ [] func76 rfl (fun x=>by kernel_rfl)
noncomputable def zh1:bf:=⟨76,zh0,fun x=>Kd x.1 x.2.1 x.2.2.1,(0,([],())),false⟩
theorem zyS:zh1.OK prog:=eo zyR
def zh2:FD:=⟨[(0,.leaf (.ptr 0 6)),(1,ti),gB],[vH],p3,[vH]⟩
noncomputable def zyT:List EntX:=[]
theorem zyU:FnX prog 77 zh2 (fun x=>Fs x.1 x.2.1 x.2.2.1 x.2.2.2.1 x.2.2.2.2.1 x.2.2.2.2.2.1 x.2.2.2.2.2.2.1 x.2.2.2.2.2.2.2.1 x.2.2.2.2.2.2.2.2.1):=fo zyT trivial [] func77 rfl (fun x=>by kernel_rfl)
noncomputable def zh3:bf:=⟨77,zh2,fun x=>Fs x.1 x.2.1 x.2.2.1 x.2.2.2.1 x.2.2.2.2.1 x.2.2.2.2.2.1 x.2.2.2.2.2.2.1 x.2.2.2.2.2.2.2.1 x.2.2.2.2.2.2.2.2.1,(0,(0,(0,([],([],([],([],([],())))))))),true⟩
theorem zyV:zh3.OK prog:=eo zyU
def zh4:FD:=⟨[qt,mX,gB],[],FT,[uq]⟩
noncomputable def zyW:List EntX:=[.one Ld]
theorem zyX:FnX prog 78 zh4 (fun x=>Ke x.1 x.2.1 x.2.2.1):=fo zyW ⟨Pg,trivial⟩ [] func78 rfl (fun x=>by kernel_rfl)
noncomputable def zh5:bf:=⟨78,zh4,fun x=>Ke x.1 x.2.1 x.2.2.1,(0,([],())),false⟩
theorem zyY:zh5.OK prog:=eo zyX
def zh6:FD:=⟨[qu,(1,.cP Bw),(2,.cP nL)],[],[oG,(1,.leaf (.own 16 kV)),gB],[(16,.rows kV)]⟩
noncomputable def zyZ:List EntX:=[.one zh5,.one zh3,.one zh1,.one zhZ,.one zhL,.one zhD,.one zhB,.one zhr,.one zhp,.one zhn,.one zhl]
theorem zy0:FnX prog 22 zh6 (fun x=>vF x.1 x.2.1 x.2.2.1):=fo zyZ ⟨zyY,zyV,zyS,zyP,zyu,zyi,zyf,zxZ,zxW,zxT,zxQ,trivial⟩ [] func22 rfl (fun x=>by kernel_rfl)
noncomputable def Le:bf:=⟨22,zh6,fun x=>vF x.1 x.2.1 x.2.2.1,((0,(0,([],([],([],([],[])))))),(0,([],()))),true⟩
theorem Pk:Le.OK prog:=eo zy0
def zh7:FD2:=⟨[qu,(1,.leaf rJ)],xp,[(0,p4),eG],zdG,[(0,.leaf .jS),eG],zt⟩
def zy1:LT:=[(12,⟨[oH,(8,rM),(49,VV),(50,p1),(51,p1)],[(0,.cells [OV,.own 18 p8,p0,p0,ji,p0]),(1,jk),qv,zdH,(18,p9),(19,.cells [rJ,p0,p0,p0,.own 20 mV,ji]),(20,lb)],21,78⟩,0,⟨[(8,p4)],zdG,20,78⟩)]
noncomputable def zy2:List EntX:=[.one Le,.one Lb,.one We,.one zes,.two V5]
theorem zy3:FnX2 prog 15 zh7 (fun x=>iv x.1 x.2.1 x.2.2.1 x.2.2.2.1 x.2.2.2.2.1 x.2.2.2.2.2.1 x.2.2.2.2.2.2.1):=fo2 zy2 ⟨Pk,Pb,zfB,zs6,zeq,trivial⟩ zy1 func15 rfl (fun x=>by kernel_rfl)
noncomputable def Cr:tZ:=⟨15,zh7,fun x=>iv x.1 x.2.1 x.2.2.1 x.2.2.2.1 x.2.2.2.2.1 x.2.2.2.2.2.1 x.2.2.2.2.2.2.1,(0,(0,(0,(false,(0,([],(0,(0,(0,(0,(0,(0,(0,(0,(0,(0,(0,([],([],([],([],([],([],(0,(0,(0,(false,([],())))))))))))))))))))))))))))),(0,(0,(0,(false,(0,([],([],()))))))),true⟩
theorem F3:Cr.OK prog:=⟨zy3,by kernel_rfl⟩
def zh8:FD:=⟨p16,[],e9,[]⟩
noncomputable def zy4:List EntX:=[]
theorem zy5:FnX prog 66 zh8 (fun x=>U9 x.1):=fo zy4 trivial [] func66 rfl (fun x=>by kernel_rfl)
noncomputable def zh9:bf:=⟨66,zh8,fun x=>U9 x.1,(false,()),false⟩
theorem zy6:zh9.OK prog:=eo zy5
def zia:FD:=⟨[O0],[],e9,[]⟩
noncomputable def zy7:List EntX:=[.one zh9]
theorem zy8:FnX prog 20 zia (fun x=>qo x.1):=fo zy7 ⟨zy6,trivial⟩ [] func20 rfl (fun x=>by kernel_rfl)
noncomputable def Pl:bf:=⟨20,zia,fun x=>qo x.1,(false,()),false⟩
theorem Wu:Pl.OK prog:=eo zy8
def zib:FD:=⟨[nP,eG,gB],nQ,jO,gZ⟩
def zy9:LT:=[(2,⟨[zC,eG,j5],gZ,17,23⟩,0,⟨jO,gZ,17,23⟩)]
noncomputable def zza:List EntX:=[]
theorem zzb:FnX prog 99 zib (fun x=>vA x.1 x.2.1 x.2.2.1):=fo zza trivial zy9 func99 rfl (fun x=>by kernel_rfl)
noncomputable def Pm:bf:=⟨99,zib,fun x=>vA x.1 x.2.1 x.2.2.1,([],()),false⟩
theorem Wv:Pm.OK prog:=eo zzb
def zic:FD:=⟨[nP,mX],nQ,jO,gZ⟩
noncomputable def zzc:List EntX:=[.one Pm]
theorem zzd:FnX prog 64 zic (fun x=>rq x.1 x.2.1):=fo zzc ⟨Wv,trivial⟩ [] func64 rfl (fun x=>by kernel_rfl)
noncomputable def Cs:bf:=⟨64,zic,fun x=>rq x.1 x.2.1,([],()),false⟩
theorem F4:Cs.OK prog:=eo zzd
def zid:FD:=⟨[nP,(1,.cP nK)],nQ,jO,gZ⟩
noncomputable def zze:List EntX:=[.one Cs]
theorem zzf:FnX prog 62 zid (fun x=>xc x.1 x.2.1):=fo zze ⟨F4,trivial⟩ [] func62 rfl (fun x=>by kernel_rfl)
noncomputable def Ww:bf:=⟨62,zid,fun x=>xc x.1 x.2.1,([],()),false⟩
theorem zie:Ww.OK prog:=eo zzf
def zif:FD:=⟨[nP,(1,.cP kq)],nQ,jO,gZ⟩
noncomputable def zzg:List EntX:=[.one Cs]
theorem zzh:FnX prog 63 zif (fun x=>BC x.1 x.2.1):=fo zzg ⟨F4,trivial⟩ [] func63 rfl (fun x=>by kernel_rfl)
noncomputable def Wx:bf:=⟨63,zif,fun x=>BC x.1 x.2.1,([],()),false⟩
theorem zig:Wx.OK prog:=eo zzh
def zih:FD:=⟨[(0,.cP nL)],[],Ch,[]⟩
noncomputable def zzi:List EntX:=[.one Cs,.one Wx,.one Ww]
theorem zzj:FnX prog 16 zih (fun x=>sN x.1):=fo zzi ⟨F4,zig,zie,trivial⟩ [] func16 rfl (fun x=>by kernel_rfl)
noncomputable def Pn:bf:=⟨16,zih,fun x=>sN x.1,([],()),true⟩
theorem Wy:Pn.OK prog:=eo zzj
def zii:FD:=⟨p16,[],p3,[]⟩
noncomputable def zzk:List EntX:=[.one Cn]
theorem zzl:FnX prog 58 zii (fun x=>KB x.1):=fo zzk ⟨FV,trivial⟩ [] func58 rfl (fun x=>by kernel_rfl)
noncomputable def zij:bf:=⟨58,zii,fun x=>KB x.1,(0,()),false⟩
theorem zzm:zij.OK prog:=eo zzl
def zik:FD:=⟨[gO,(1,qq)],um,p3,rK⟩
noncomputable def zzn:List EntX:=[.one V2,.one V3,.one zij,.one FW]
theorem zzo:FnX prog 13 zik (fun x=>B5 x.1 x.2.1 x.2.2.1 x.2.2.2.1 x.2.2.2.2.1 x.2.2.2.2.2.1 x.2.2.2.2.2.2.1 x.2.2.2.2.2.2.2.1 x.2.2.2.2.2.2.2.2.1 x.2.2.2.2.2.2.2.2.2.1 x.2.2.2.2.2.2.2.2.2.2.1 x.2.2.2.2.2.2.2.2.2.2.2.1):=fo zzn ⟨zel,zen,zzm,K4,trivial⟩ [] func13 rfl (fun x=>by kernel_rfl)
noncomputable def Wz:bf:=⟨13,zik,fun x=>B5 x.1 x.2.1 x.2.2.1 x.2.2.2.1 x.2.2.2.2.1 x.2.2.2.2.2.1 x.2.2.2.2.2.2.1 x.2.2.2.2.2.2.2.1 x.2.2.2.2.2.2.2.2.1 x.2.2.2.2.2.2.2.2.2.1 x.2.2.2.2.2.2.2.2.2.2.1 x.2.2.2.2.2.2.2.2.2.2.2.1,(0,(0,(0,(0,(false,(0,(0,(false,(0,([],([],([],())))))))))))),true⟩
theorem zil:Wz.OK prog:=eo zzo
def zim:FD:=⟨[nP,eG],nQ,jO,gZ⟩
noncomputable def zzp:List EntX:=[.one Pm]
theorem zzq:FnX prog 130 zim (fun x=>vB x.1 x.2.1):=fo zzp ⟨Wv,trivial⟩ [] func130 rfl (fun x=>by kernel_rfl)
noncomputable def F5:bf:=⟨130,zim,fun x=>vB x.1 x.2.1,([],()),false⟩
theorem Lf:F5.OK prog:=eo zzq
def zin:FD:=⟨[nP,eG],nQ,jO,gZ⟩
noncomputable def zzr:List EntX:=[.one Pm]
theorem zzs:FnX prog 129 zin (fun x=>rm x.1 x.2.1):=fo zzr ⟨Wv,trivial⟩ [] func129 rfl (fun x=>by kernel_rfl)
noncomputable def vJ:bf:=⟨129,zin,fun x=>rm x.1 x.2.1,([],()),false⟩
theorem xu:vJ.OK prog:=eo zzs
def zio:FD:=⟨[nP,(1,tf),(2,.fn 62 [] [])],nQ,jO,gZ⟩
def zzt:LT:=[(3,⟨[zC,(2,.fn 62 [] []),(13,tf),qs,(15,p1)],gZ,17,25⟩,0,⟨jO,gZ,17,25⟩)]
noncomputable def zzu:List EntX:=[.one Ww,.one vJ]
theorem zzv:FnX prog 131 zio (fun x=>IM x.1 x.2.1):=fo zzu ⟨zie,xu,trivial⟩ zzt func131 rfl (fun x=>by kernel_rfl)
noncomputable def ziq:bf:=⟨131,zio,fun x=>IM x.1 x.2.1,([],()),false⟩
theorem zzw:ziq.OK prog:=eo zzv
def zir:FD:=⟨[nP,(1,.cP mg)],nQ,jO,gZ⟩
noncomputable def zzx:List EntX:=[.one vJ,.one F5,.one Wx]
theorem zzy:FnX prog 133 zir (fun x=>IN x.1 x.2.1):=fo zzx ⟨xu,Lf,zig,trivial⟩ [] func133 rfl (fun x=>by kernel_rfl)
noncomputable def zis:bf:=⟨133,zir,fun x=>IN x.1 x.2.1,([],()),false⟩
theorem zzz:zis.OK prog:=eo zzy
def zit:FD:=⟨[nP,(1,Cl),(2,.fn 133 [] [])],nQ,jO,gZ⟩
def zzA:LT:=[(3,⟨[zC,(2,.fn 133 [] []),(13,Cl),qs,(15,p1)],gZ,17,25⟩,0,⟨jO,gZ,17,25⟩)]
noncomputable def zzB:List EntX:=[.one zis,.one vJ]
theorem zzC:FnX prog 132 zit (fun x=>IP x.1 x.2.1):=fo zzB ⟨zzz,xu,trivial⟩ zzA func132 rfl (fun x=>by kernel_rfl)
noncomputable def ziu:bf:=⟨132,zit,fun x=>IP x.1 x.2.1,([],()),false⟩
theorem zzD:ziu.OK prog:=eo zzC
def ziv:FD:=⟨[nP,(1,.cP sJ)],nQ,jO,gZ⟩
noncomputable def zzE:List EntX:=[.one F5]
theorem zzF:FnX prog 137 ziv (fun x=>IQ x.1 x.2.1):=fo zzE ⟨Lf,trivial⟩ [] func137 rfl (fun x=>by kernel_rfl)
noncomputable def ziw:bf:=⟨137,ziv,fun x=>IQ x.1 x.2.1,([],()),false⟩
theorem zzG:ziw.OK prog:=eo zzF
def zix:FD:=⟨[nP,(1,rL),(2,.fn 137 [] [])],nQ,jO,gZ⟩
def zzH:LT:=[(3,⟨[zC,(2,.fn 137 [] []),(13,rL),qs,(15,p1)],gZ,17,25⟩,0,⟨jO,gZ,17,25⟩)]
noncomputable def zzI:List EntX:=[.one ziw,.one vJ]
theorem zzJ:FnX prog 136 zix (fun x=>IS x.1 x.2.1):=fo zzI ⟨zzG,xu,trivial⟩ zzH func136 rfl (fun x=>by kernel_rfl)
noncomputable def ziy:bf:=⟨136,zix,fun x=>IS x.1 x.2.1,([],()),false⟩
theorem zzK:ziy.OK prog:=eo zzJ
def ziz:FD:=⟨[nP,(1,.cP uf)],nQ,jO,gZ⟩
noncomputable def zzL:List EntX:=[.one ziy,.one Cs]
theorem zzM:FnX prog 135 ziz (fun x=>IT x.1 x.2.1):=fo zzL ⟨zzK,F4,trivial⟩ [] func135 rfl (fun x=>by kernel_rfl)
noncomputable def ziA:bf:=⟨135,ziz,fun x=>IT x.1 x.2.1,([],()),false⟩
theorem zzN:ziA.OK prog:=eo zzM
def ziB:FD:=⟨[nP,(1,oF),(2,.fn 135 [] [])],nQ,jO,gZ⟩
def zzO:LT:=[(3,⟨[zC,(2,.fn 135 [] []),(13,oF),qs,(15,p1)],gZ,17,25⟩,0,⟨jO,gZ,17,25⟩)]
noncomputable def zzP:List EntX:=[.one ziA,.one vJ]
theorem zzQ:FnX prog 134 ziB (fun x=>IU x.1 x.2.1):=fo zzP ⟨zzN,xu,trivial⟩ zzO func134 rfl (fun x=>by kernel_rfl)
noncomputable def ziC:bf:=⟨134,ziB,fun x=>IU x.1 x.2.1,([],()),false⟩
theorem zzR:ziC.OK prog:=eo zzQ
def ziD:FD:=⟨[nP,(1,.cP iU)],nQ,jO,gZ⟩
noncomputable def zzS:List EntX:=[.one F5,.one vJ,.one Cs]
theorem zzT:FnX prog 139 ziD (fun x=>IV x.1 x.2.1):=fo zzS ⟨Lf,xu,F4,trivial⟩ [] func139 rfl (fun x=>by kernel_rfl)
noncomputable def ziE:bf:=⟨139,ziD,fun x=>IV x.1 x.2.1,([],()),false⟩
theorem zzU:ziE.OK prog:=eo zzT
def ziF:FD:=⟨[nP,(1,vG),(2,.fn 139 [] [])],nQ,jO,gZ⟩
def zzV:LT:=[(3,⟨[zC,(2,.fn 139 [] []),(13,vG),qs,(15,p1)],gZ,17,25⟩,0,⟨jO,gZ,17,25⟩)]
noncomputable def zzW:List EntX:=[.one ziE,.one vJ]
theorem zzX:FnX prog 138 ziF (fun x=>IW x.1 x.2.1):=fo zzW ⟨zzU,xu,trivial⟩ zzV func138 rfl (fun x=>by kernel_rfl)
noncomputable def ziG:bf:=⟨138,ziF,fun x=>IW x.1 x.2.1,([],()),false⟩
theorem zzY:ziG.OK prog:=eo zzX
def ziH:FD:=⟨[nP,(1,.cP qi)],nQ,jO,gZ⟩
noncomputable def zzZ:List EntX:=[.one F5,.one Cs]
theorem zz0:FnX prog 141 ziH (fun x=>IX x.1 x.2.1):=fo zzZ ⟨Lf,F4,trivial⟩ [] func141 rfl (fun x=>by kernel_rfl)
noncomputable def ziI:bf:=⟨141,ziH,fun x=>IX x.1 x.2.1,([],()),false⟩
theorem zz1:ziI.OK prog:=eo zz0
def ziJ:FD:=⟨[nP,(1,ti),(2,.fn 141 [] [])],nQ,jO,gZ⟩
def zz2:LT:=[(3,⟨[zC,(2,.fn 141 [] []),(13,ti),qs,(15,p1)],gZ,17,25⟩,0,⟨jO,gZ,17,25⟩)]
noncomputable def zz3:List EntX:=[.one ziI,.one vJ]
theorem zz4:FnX prog 140 ziJ (fun x=>IY x.1 x.2.1):=fo zz3 ⟨zz1,xu,trivial⟩ zz2 func140 rfl (fun x=>by kernel_rfl)
noncomputable def ziK:bf:=⟨140,ziJ,fun x=>IY x.1 x.2.1,([],()),false⟩
theorem zz5:ziK.OK prog:=eo zz4
def ziL:FD:=⟨[oG],[],Ch,[]⟩
noncomputable def zz6:List EntX:=[.one ziK,.one ziG,.one ziC,.one ziu,.one ziq,.one vJ,.one F5]
theorem zz7:FnX prog 82 ziL (fun x=>EV x.1):=fo zz6 ⟨zz5,zzY,zzR,zzD,zzw,xu,Lf,trivial⟩ [] func82 rfl (fun x=>by kernel_rfl)
noncomputable def ziM:bf:=⟨82,ziL,fun x=>EV x.1,([],()),true⟩
theorem zz8:ziM.OK prog:=eo zz7
def ziN:FD:=⟨jN,zdJ,p3,zdK⟩
noncomputable def zz9:List EntX:=[.one O3,.one ziM]
theorem zAa:FnX prog 27 ziN (fun x=>xk x.1 x.2.1 x.2.2.1 x.2.2.2.1 x.2.2.2.2.1 x.2.2.2.2.2.1 x.2.2.2.2.2.2.1 x.2.2.2.2.2.2.2.1 x.2.2.2.2.2.2.2.2.1 x.2.2.2.2.2.2.2.2.2.1 x.2.2.2.2.2.2.2.2.2.2.1 x.2.2.2.2.2.2.2.2.2.2.2.1 x.2.2.2.2.2.2.2.2.2.2.2.2.1 x.2.2.2.2.2.2.2.2.2.2.2.2.2.1 x.2.2.2.2.2.2.2.2.2.2.2.2.2.2.1 x.2.2.2.2.2.2.2.2.2.2.2.2.2.2.2.1 x.2.2.2.2.2.2.2.2.2.2.2.2.2.2.2.2.1 x.2.2.2.2.2.2.2.2.2.2.2.2.2.2.2.2.2.1 x.2.2.2.2.2.2.2.2.2.2.2.2.2.2.2.2.2.2.1 x.2.2.2.2.2.2.2.2.2.2.2.2.2.2.2.2.2.2.2.1 x.2.2.2.2.2.2.2.2.2.2.2.2.2.2.2.2.2.2.2.2.1 x.2.2.2.2.2.2.2.2.2.2.2.2.2.2.2.2.2.2.2.2.2.1 x.2.2.2.2.2.2.2.2.2.2.2.2.2.2.2.2.2.2.2.2.2.2.1 x.2.2.2.2.2.2.2.2.2.2.2.2.2.2.2.2.2.2.2.2.2.2.2.1 x.2.2.2.2.2.2.2.2.2.2.2.2.2.2.2.2.2.2.2.2.2.2.2.2.1 x.2.2.2.2.2.2.2.2.2.2.2.2.2.2.2.2.2.2.2.2.2.2.2.2.2.1 x.2.2.2.2.2.2.2.2.2.2.2.2.2.2.2.2.2.2.2.2.2.2.2.2.2.2.1):=fo zz9 ⟨V4,zz8,trivial⟩ [] func27 rfl (fun x=>by kernel_rfl)
noncomputable def Lh:bf:=⟨27,ziN,fun x=>xk x.1 x.2.1 x.2.2.1 x.2.2.2.1 x.2.2.2.2.1 x.2.2.2.2.2.1 x.2.2.2.2.2.2.1 x.2.2.2.2.2.2.2.1 x.2.2.2.2.2.2.2.2.1 x.2.2.2.2.2.2.2.2.2.1 x.2.2.2.2.2.2.2.2.2.2.1 x.2.2.2.2.2.2.2.2.2.2.2.1 x.2.2.2.2.2.2.2.2.2.2.2.2.1 x.2.2.2.2.2.2.2.2.2.2.2.2.2.1 x.2.2.2.2.2.2.2.2.2.2.2.2.2.2.1 x.2.2.2.2.2.2.2.2.2.2.2.2.2.2.2.1 x.2.2.2.2.2.2.2.2.2.2.2.2.2.2.2.2.1 x.2.2.2.2.2.2.2.2.2.2.2.2.2.2.2.2.2.1 x.2.2.2.2.2.2.2.2.2.2.2.2.2.2.2.2.2.2.1 x.2.2.2.2.2.2.2.2.2.2.2.2.2.2.2.2.2.2.2.1 x.2.2.2.2.2.2.2.2.2.2.2.2.2.2.2.2.2.2.2.2.1 x.2.2.2.2.2.2.2.2.2.2.2.2.2.2.2.2.2.2.2.2.2.1 x.2.2.2.2.2.2.2.2.2.2.2.2.2.2.2.2.2.2.2.2.2.2.1 x.2.2.2.2.2.2.2.2.2.2.2.2.2.2.2.2.2.2.2.2.2.2.2.1 x.2.2.2.2.2.2.2.2.2.2.2.2.2.2.2.2.2.2.2.2.2.2.2.2.1 x.2.2.2.2.2.2.2.2.2.2.2.2.2.2.2.2.2.2.2.2.2.2.2.2.2.1 x.2.2.2.2.2.2.2.2.2.2.2.2.2.2.2.2.2.2.2.2.2.2.2.2.2.2.1,(0,(0,(0,(0,(0,(0,(0,(0,(0,(0,(0,(0,([],([],([],([],([],(0,(0,(0,(false,(0,(0,(false,(0,([],([],([],())))))))))))))))))))))))))))),true⟩
theorem Po:Lh.OK prog:=eo zAa
def ziO:FD:=FM kV
theorem zAb:FnX prog 67 ziO (fun x=>Ca x.1):=
 OQ ⟨_,func67,by decide,rfl⟩ Go.Proofs.Tryz.zrW rfl (by kernel_rfl) (by decide) (by decide) Go.Proofs.Tryz.sizeOf137
noncomputable def ziP:bf:=⟨67,ziO,fun x=>Ca x.1,([],()),false⟩
theorem zAc:ziP.OK prog:=eo zAb
def ziQ:FD:=⟨[gO,(1,.cP nL)],zdJ,[(0,.leaf (.sl kV)),eG],zdK⟩
noncomputable def zAd:List EntX:=[.one ziP,.one Lh,.one Wz,.one Le,.one Lb,.one Pn,.one Pl]
theorem zAe:FnX prog 21 ziQ (fun x=>sQ x.1 x.2.1 x.2.2.1 x.2.2.2.1 x.2.2.2.2.1 x.2.2.2.2.2.1 x.2.2.2.2.2.2.1 x.2.2.2.2.2.2.2.1 x.2.2.2.2.2.2.2.2.1 x.2.2.2.2.2.2.2.2.2.1 x.2.2.2.2.2.2.2.2.2.2.1 x.2.2.2.2.2.2.2.2.2.2.2.1 x.2.2.2.2.2.2.2.2.2.2.2.2.1 x.2.2.2.2.2.2.2.2.2.2.2.2.2.1 x.2.2.2.2.2.2.2.2.2.2.2.2.2.2.1 x.2.2.2.2.2.2.2.2.2.2.2.2.2.2.2.1 x.2.2.2.2.2.2.2.2.2.2.2.2.2.2.2.2.1 x.2.2.2.2.2.2.2.2.2.2.2.2.2.2.2.2.2.1 x.2.2.2.2.2.2.2.2.2.2.2.2.2.2.2.2.2.2.1 x.2.2.2.2.2.2.2.2.2.2.2.2.2.2.2.2.2.2.2.1 x.2.2.2.2.2.2.2.2.2.2.2.2.2.2.2.2.2.2.2.2.1 x.2.2.2.2.2.2.2.2.2.2.2.2.2.2.2.2.2.2.2.2.2.1 x.2.2.2.2.2.2.2.2.2.2.2.2.2.2.2.2.2.2.2.2.2.2.1 x.2.2.2.2.2.2.2.2.2.2.2.2.2.2.2.2.2.2.2.2.2.2.2.1 x.2.2.2.2.2.2.2.2.2.2.2.2.2.2.2.2.2.2.2.2.2.2.2.2.1 x.2.2.2.2.2.2.2.2.2.2.2.2.2.2.2.2.2.2.2.2.2.2.2.2.2.1 x.2.2.2.2.2.2.2.2.2.2.2.2.2.2.2.2.2.2.2.2.2.2.2.2.2.2.1 x.2.2.2.2.2.2.2.2.2.2.2.2.2.2.2.2.2.2.2.2.2.2.2.2.2.2.2.1):=fo zAd ⟨zAc,Po,zil,Pk,Pb,Wy,Wu,trivial⟩ [] func21 rfl (fun x=>by kernel_rfl)
noncomputable def F6:bf:=⟨21,ziQ,fun x=>sQ x.1 x.2.1 x.2.2.1 x.2.2.2.1 x.2.2.2.2.1 x.2.2.2.2.2.1 x.2.2.2.2.2.2.1 x.2.2.2.2.2.2.2.1 x.2.2.2.2.2.2.2.2.1 x.2.2.2.2.2.2.2.2.2.1 x.2.2.2.2.2.2.2.2.2.2.1 x.2.2.2.2.2.2.2.2.2.2.2.1 x.2.2.2.2.2.2.2.2.2.2.2.2.1 x.2.2.2.2.2.2.2.2.2.2.2.2.2.1 x.2.2.2.2.2.2.2.2.2.2.2.2.2.2.1 x.2.2.2.2.2.2.2.2.2.2.2.2.2.2.2.1 x.2.2.2.2.2.2.2.2.2.2.2.2.2.2.2.2.1 x.2.2.2.2.2.2.2.2.2.2.2.2.2.2.2.2.2.1 x.2.2.2.2.2.2.2.2.2.2.2.2.2.2.2.2.2.2.1 x.2.2.2.2.2.2.2.2.2.2.2.2.2.2.2.2.2.2.2.1 x.2.2.2.2.2.2.2.2.2.2.2.2.2.2.2.2.2.2.2.2.1 x.2.2.2.2.2.2.2.2.2.2.2.2.2.2.2.2.2.2.2.2.2.1 x.2.2.2.2.2.2.2.2.2.2.2.2.2.2.2.2.2.2.2.2.2.2.1 x.2.2.2.2.2.2.2.2.2.2.2.2.2.2.2.2.2.2.2.2.2.2.2.1 x.2.2.2.2.2.2.2.2.2.2.2.2.2.2.2.2.2.2.2.2.2.2.2.2.1 x.2.2.2.2.2.2.2.2.2.2.2.2.2.2.2.2.2.2.2.2.2.2.2.2.2.1 x.2.2.2.2.2.2.2.2.2.2.2.2.2.2.2.2.2.2.2.2.2.2.2.2.2.2.1 x.2.2.2.2.2.2.2.2.2.2.2.2.2.2.2.2.2.2.2.2.2.2.2.2.2.2.2.1,([],(0,(0,(0,(0,(0,(0,(0,(0,(0,(0,(0,(0,([],([],([],([],([],(0,(0,(0,(false,(0,(0,(false,(0,([],([],([],()))))))))))))))))))))))))))))),true⟩
theorem Li:F6.OK prog:=eo zAe
def ziR:FD:=⟨[gO,(1,.leaf (.int .u64)),gB,kZ],xp,[],[(16,p9),p40,(1,jk)]⟩
def zAf:LT:=[(1,⟨[gO,(1,.leaf (.int .u64)),gB,kZ,(13,.leaf (.own 16 p8)),qs,(15,p1)],zt,17,67⟩,0,⟨jN,zt,17,67⟩)]
noncomputable def zAg:List EntX:=[]
theorem zAh:FnX prog 32 ziR (fun x=>KC x.1 x.2.1 x.2.2.1 x.2.2.2.1 x.2.2.2.2.1 x.2.2.2.2.2.1 x.2.2.2.2.2.2.1 x.2.2.2.2.2.2.2.1 x.2.2.2.2.2.2.2.2.1):=fo zAg trivial zAf func32 rfl (fun x=>by kernel_rfl)
noncomputable def ziS:bf:=⟨32,ziR,fun x=>KC x.1 x.2.1 x.2.2.1 x.2.2.2.1 x.2.2.2.2.1 x.2.2.2.2.2.1 x.2.2.2.2.2.2.1 x.2.2.2.2.2.2.2.1 x.2.2.2.2.2.2.2.2.1,([],(0,(0,(false,(0,([],())))))),false⟩
theorem zAi:ziS.OK prog:=eo zAh
noncomputable def F7:vv:=H_get 24 10 7
theorem Lj:F7.OK prog:=h_daemon_Daemon_State
def ziT:FD:=⟨p16,[],[(0,.leaf (.own 16 mV))],[(16,lb)]⟩
def zAj:LT:=[(3,⟨[OW,(9,VV),(10,p1),(11,p1)],[(16,lb)],17,22⟩,0,⟨[OW],[(16,lb)],17,22⟩)]
noncomputable def zAk:List EntX:=[]
theorem zAl:FnX prog 61 ziT (fun x=>OM x.1):=fo zAk trivial zAj func61 rfl (fun x=>by kernel_rfl)
noncomputable def ziU:bf:=⟨61,ziT,fun x=>OM x.1,([],()),true⟩
theorem zAm:ziU.OK prog:=eo zAl
def ziV:FD:=⟨[O0],[],p3,[]⟩
noncomputable def zAn:List EntX:=[.one ziU]
theorem zAo:FnX prog 28 ziV (fun x=>ju x.1):=fo zAn ⟨zAm,trivial⟩ [] func28 rfl (fun x=>by kernel_rfl)
noncomputable def Lk:bf:=⟨28,ziV,fun x=>ju x.1,(0,()),false⟩
theorem Pp:Lk.OK prog:=eo zAo
def ziW:FD:=⟨[O0,mX],[],p3,[]⟩
noncomputable def zAp:List EntX:=[.one F2]
theorem zAq:FnX prog 25 ziW (fun x=>uj x.1 x.2.1):=fo zAp ⟨Lc,trivial⟩ [] func25 rfl (fun x=>by kernel_rfl)
noncomputable def Pq:bf:=⟨25,ziW,fun x=>uj x.1 x.2.1,(0,()),false⟩
theorem WA:Pq.OK prog:=eo zAq
def ziX:FD:=⟨[],[],e9,[]⟩
noncomputable def zAr:List EntX:=[.one Pq,.one Lk,.one ziS,.one F6,.two Cr,.one Cm,.hand F7]
theorem zAs:FnX prog 8 ziX (fun x=>xl):=fo zAr ⟨WA,Pp,zAi,Li,F3,FU,Lj,trivial⟩ [] func8 rfl (fun x=>by kernel_rfl)
noncomputable def F8:bf:=⟨8,ziX,fun x=>xl,(false,()),false⟩
theorem Ll:F8.OK prog:=eo zAs
def zAt:FD:=⟨[(0,qq),(1,.cP nL),(2,mq)],[],e9,[]⟩
noncomputable def zAu:List EntX:=[.one Lb,.one Wz,.one Pn,.two Cr,.one We,.one O3,.two V5,.one Cm,.one F8]
theorem ok_terrierlaw20_DaemonForm:FnX prog 3 zAt (fun x=>Ve x.1 x.2.1 x.2.2.1):=fo zAu ⟨Pb,zil,Wy,F3,zfB,V4,zeq,FU,Ll,trivial⟩ [] func3 rfl (fun x=>by kernel_rfl)
def ziY:FD:=⟨[K0],[],[qu],[]⟩
noncomputable def zAv:List EntX:=[]
theorem zAw:FnX prog 17 ziY (fun x=>yX x.1):=fo zAv trivial [] func17 rfl (fun x=>by kernel_rfl)
noncomputable def Lm:bf:=⟨17,ziY,fun x=>yX x.1,((0,(0,(0,(0,(0,(0,(0,(0,0)))))))),()),false⟩
theorem Pr:Lm.OK prog:=eo zAw
def ziZ:FD:=⟨[gO,eG],xp,[],xp⟩
noncomputable def zAx:List EntX:=[]
theorem zAy:FnX prog 18 ziZ (fun x=>FF x.1 x.2.1 x.2.2.1 x.2.2.2.1 x.2.2.2.2.1 x.2.2.2.2.2.1 x.2.2.2.2.2.2.1):=fo zAx trivial [] func18 rfl (fun x=>by kernel_rfl)
noncomputable def zi0:bf:=⟨18,ziZ,fun x=>FF x.1 x.2.1 x.2.2.1 x.2.2.2.1 x.2.2.2.2.1 x.2.2.2.2.2.1 x.2.2.2.2.2.2.1,(0,(0,(false,(0,([],([],())))))),false⟩
theorem zAz:zi0.OK prog:=eo zAy
def zi1:FD:=⟨[(0,.leaf iw)],[],KX,[]⟩
noncomputable def zAA:List EntX:=[]
theorem zAB:FnX prog 151 zi1 (fun x=>E6 x.1):=fo zAA trivial [] func151 rfl (fun x=>by kernel_rfl)
noncomputable def zi2:bf:=⟨151,zi1,fun x=>E6 x.1,((0,(0,(0,(0,(0,0))))),()),false⟩
theorem zAC:zi2.OK prog:=eo zAB
def zi3:FD:=⟨[(0,pF),(1,.leaf iw)],[],[(0,.cP kq)],[]⟩
noncomputable def zAD:List EntX:=[]
theorem zAE:FnX prog 152 zi3 (fun x=>IG x.1 x.2.1):=fo zAD trivial [] func152 rfl (fun x=>by kernel_rfl)
noncomputable def zi4:bf:=⟨152,zi3,fun x=>IG x.1 x.2.1,((0,0),()),false⟩
theorem zAF:zi4.OK prog:=eo zAE
def zi5:FD:=⟨KX,[],[(0,.cP nL)],[]⟩
noncomputable def zAG:List EntX:=[.one zi4,.one zi2]
theorem zAH:FnX prog 100 zi5 (fun x=>Js x.1):=fo zAG ⟨zAF,zAC,trivial⟩ [] func100 rfl (fun x=>by kernel_rfl)
noncomputable def zi6:bf:=⟨100,zi5,fun x=>Js x.1,((0,((0,([],(0,(0,(0,(0,(0,0))))))),((0,0),(0,((0,(0,(0,(0,(0,0))))),0))))),()),false⟩
theorem zAI:zi6.OK prog:=eo zAH
def zi7:FD:=⟨[(0,xr)],[],[(0,.leaf (.own 16 nL))],[(16,.rows nL)]⟩
def zAJ:LT:=[(3,⟨[O1,(12,xr),(13,p1),qs],[(16,.rows nL)],17,43⟩,0,⟨[O1],[(16,.rows nL)],17,43⟩),(8,⟨[O1,(5,rM),(6,uv),j5,(12,xr),(13,p1),qs],[(16,.rows nL),(17,p86),(18,zdL)],19,43⟩,2,⟨[O1,(12,xr),(13,p1),qs],[(16,.rows nL)],17,43⟩)]
noncomputable def zAK:List EntX:=[.one zi6]
theorem zAL:FnX prog 65 zi7 (fun x=>Jv x.1):=fo zAK ⟨zAI,trivial⟩ zAJ func65 rfl (fun x=>by kernel_rfl)
noncomputable def zi8:bf:=⟨65,zi7,fun x=>Jv x.1,([],()),false⟩
theorem zAM:zi8.OK prog:=eo zAL
def zi9:FD:=⟨[(0,xr)],[],[(0,K3)],[]⟩
noncomputable def zAN:List EntX:=[.one zi8]
theorem zAO:FnX prog 19 zi9 (fun x=>sR x.1):=fo zAN ⟨zAM,trivial⟩ [] func19 rfl (fun x=>by kernel_rfl)
noncomputable def Ln:bf:=⟨19,zi9,fun x=>sR x.1,([],()),true⟩
theorem Ps:Ln.OK prog:=eo zAO
def zja:FD:=⟨[oG,(1,.cP Bw)],[],e9,[]⟩
def zAP:LT:=[(5,⟨[oH,tj,(5,mq),(71,p1),(72,p1)],rN,18,227⟩,0,⟨O2,rN,18,227⟩),(10,⟨[oH,tj,(5,mq),(92,p1),(93,p1)],rN,18,227⟩,2,⟨O2,rN,18,227⟩),(15,⟨[oH,tj,(5,mq),(113,p1),(114,p1)],rN,18,227⟩,4,⟨O2,rN,18,227⟩),(20,⟨[oH,tj,(5,mq),(134,p1),(135,p1)],rN,18,227⟩,6,⟨O2,rN,18,227⟩),(25,⟨[oH,tj,(5,mq),(155,p1),(156,p1)],rN,18,227⟩,8,⟨[(5,mq)],[],16,227⟩),(29,⟨[oH,tj,(5,mq),(10,p1),(11,p1),(155,p1),(156,p1)],rN,18,227⟩,10,⟨[oH,tj,(5,mq),(155,p1),(156,p1)],rN,18,227⟩)]
noncomputable def zAQ:List EntX:=[]
theorem zAR:FnX prog 23 zja (fun x=>lF x.1 x.2.1):=fo zAQ trivial zAP func23 rfl (fun x=>by kernel_rfl)
noncomputable def Lo:bf:=⟨23,zja,fun x=>lF x.1 x.2.1,(false,()),false⟩
theorem Pt:Lo.OK prog:=eo zAR
def zAS:FD:=⟨[K0,(1,xr),(2,.leaf iw)],[],e9,[]⟩
def zAT:LT:=[(11,⟨[(7,p4),(9,rM),(11,uv),(39,K3),(40,p1),(41,p1)],[qv,zdH,(18,mY),(19,.cells [.ptr 20 0,p0,p0,p0,.own 21 mV,ji]),(20,.cells [.own 22 p7,.own 23 p8,p0,p0,ji,p0]),(21,lb),(22,jk),(23,p9)],24,121⟩,0,⟨[(9,p4)],[(16,.cells [p0,p0,p0,p0,p0,p0,p0,p0,p0,OY,p0,p0,zx,ur,zy,zA,zB]),(17,.cells [.ptr 18 0,p0,p0,p0,.own 19 mV,ji]),(18,zdM),(19,lb),(20,jk),(21,p9)],22,121⟩)]
noncomputable def zAU:List EntX:=[.one Lh,.one F2,.one Pq,.one Lo,.one Le,.one F6,.one Pl,.one Ln,.one zi0,.two Cr,.one Cm,.one Lm,.one F8,.hand F7]
theorem ok_terrierlaw20_DaemonFails:FnX prog 4 zAS (fun x=>Vn x.1 x.2.1 x.2.2.1):=fo zAU ⟨Po,Lc,WA,Pt,Pk,Li,Wu,Ps,zAz,F3,FU,Pr,Ll,Lj,trivial⟩ zAT func4 rfl (fun x=>by kernel_rfl)
def zjb:FD:=⟨VU,[],p3,[]⟩
noncomputable def zAV:List EntX:=[]
theorem zAW:FnX prog 29 zjb (fun x=>FJ x.1):=fo zAV trivial [] func29 rfl (fun x=>by kernel_rfl)
noncomputable def zjc:bf:=⟨29,zjb,fun x=>FJ x.1,(0,()),false⟩
theorem zAX:zjc.OK prog:=eo zAW
def zAY:FD:=⟨[K0,(1,xr),(2,.cP nL)],[],e9,[]⟩
def zAZ:LT:=[(10,⟨[(5,p4),(8,rM),(9,uv),(47,K3),(48,p1),(49,p1)],zdQ,23,96⟩,0,⟨[(5,p4),(8,rM),(9,uv)],zdQ,23,96⟩)]
noncomputable def zA0:List EntX:=[.one Lo,.one zjc,.one Lk,.one F6,.one Ln,.two Cr,.one Cm,.one Lm,.one F8,.hand F7]
theorem ok_terrierlaw20_DaemonRefused:FnX prog 5 zAY (fun x=>Vq x.1 x.2.1 x.2.2.1):=fo zA0 ⟨Pt,zAX,Pp,Li,Ps,F3,FU,Pr,Ll,Lj,trivial⟩ zAZ func5 rfl (fun x=>by kernel_rfl)
def zjd:FD:=⟨[(0,.leaf (.sl kV)),(1,.leaf (.sl kV))],[],e9,[]⟩
def zA1:LT:=[(4,⟨[(0,.leaf (.sl kV)),(1,.leaf (.sl kV)),(12,p1),(13,p1)],[],16,26⟩,0,⟨[],[],16,26⟩)]
noncomputable def zA2:List EntX:=[]
theorem zA3:FnX prog 30 zjd (fun x=>FK x.1 x.2.1):=fo zA2 trivial zA1 func30 rfl (fun x=>by kernel_rfl)
noncomputable def zje:bf:=⟨30,zjd,fun x=>FK x.1 x.2.1,(false,()),false⟩
theorem zA4:zje.OK prog:=eo zA3
def zjf:FD:=⟨p16,[],p3,[]⟩
noncomputable def zA5:List EntX:=[]
theorem zA6:FnX prog 83 zjf (fun x=>Vu x.1):=fo zA5 trivial [] func83 rfl (fun x=>by kernel_rfl)
noncomputable def zjg:bf:=⟨83,zjf,fun x=>Vu x.1,(0,()),false⟩
theorem zA7:zjg.OK prog:=eo zA6
def zjh:FD:=⟨[O0],[],p3,[]⟩
noncomputable def zA8:List EntX:=[.one zjg]
theorem zA9:FnX prog 31 zjh (fun x=>lG x.1):=fo zA8 ⟨zA7,trivial⟩ [] func31 rfl (fun x=>by kernel_rfl)
noncomputable def WB:bf:=⟨31,zjh,fun x=>lG x.1,(0,()),false⟩
theorem zji:WB.OK prog:=eo zA9
def zBa:FD:=⟨[K0,(1,xr),(2,.leaf iw)],[],e9,[]⟩
def zBb:LT:=[(10,⟨[(2,.leaf iw),(7,p4),(8,rM),(9,uv),(11,.leaf (.ptr 19 0)),(42,K3),(43,p1),(44,p1)],[qv,(17,zdM),(18,.cells [p0,p0,p0,p0,p0,p0,p0,p0,p0,.ptr 22 0,p0,p0,zx,ur,zy,zA,zB]),(19,mY),(20,jk),(21,p9),(22,.cells [OY,p0,p0,p0,.own 23 mV,ji]),(23,lb)],24,167⟩,0,⟨[],[],16,167⟩)]
noncomputable def zBc:List EntX:=[.one Lk,.one Lh,.one WB,.one F2,.one Pq,.one Pl,.one Lo,.one zje,.one F6,.one Lb,.one Pn,.one Le,.one Ln,.two Cr,.one Cm,.one Lm,.one F8,.hand F7]
theorem ok_terrierlaw20_DaemonDo:FnX prog 6 zBa (fun x=>VA x.1 x.2.1 x.2.2.1):=fo zBc ⟨Pp,Po,zji,Lc,WA,Wu,Pt,zA4,Li,Pb,Wy,Pk,Ps,F3,FU,Pr,Ll,Lj,trivial⟩ zBb func6 rfl (fun x=>by kernel_rfl)
def zBd:FD:=⟨[K0,(1,xr)],[],e9,[]⟩
def zBe:LT:=[(9,⟨[(5,p4),(6,rM),(7,uv),(33,K3),(34,p1),(35,p1)],zdR,23,99⟩,0,⟨[(5,p4),(6,rM),(7,uv)],zdR,23,99⟩)]
noncomputable def zBf:List EntX:=[.one Lo,.one Lk,.one Lh,.one WB,.one F6,.one Ln,.two Cr,.one Cm,.one Lm,.one F8,.hand F7]
theorem ok_terrierlaw20_DaemonKeep:FnX prog 7 zBd (fun x=>VE x.1 x.2.1):=fo zBf ⟨Pt,Pp,Po,zji,Li,Ps,F3,FU,Pr,Ll,Lj,trivial⟩ zBe func7 rfl (fun x=>by kernel_rfl)
end Go.Tr
