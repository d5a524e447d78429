/- Events as bytes: what the printed functions of layer 19 come to; numbers as bytes, readers. Events as bytes: what an event's bytes are, what is read of bytes. Events as bytes: an event's bytes, and what is read of them; the law of events. The law of events' bytes. The law of events' bytes. Conditions: none but those that each theorem states. -/
import Derived.Test.YtploofmfghjijaaGreatScriptS
import Derived.Test.YtploofmfghjijaaGreatCodec1D
namespace Go.Tr
open Go
set_option linter.unusedVariables false
set_option linter.unusedSimpArgs false
set_option maxRecDepth 100000
set_option maxHeartbeats 4000000
def be(n:Int):Nat->List Int
 | 0=>[]
 | k+1=>n / 2 ^ (8*k) % 256::be n k
theorem cU(n:Int):∀ k,(be n k).length=k
 | 0=>rfl
 | k+1=>by simp[be,cU n k]
theorem iK(n:Int):∀ k,bN (be n k)
 | 0=>fun c hc=>by simp[be] at hc
 | k+1=>fun c hc=>by
  simp only[be,List.mem_cons] at hc
  rcases hc with rfl | hc
  ·exact⟨by omega,by omega⟩
  ·exact iK n k c hc
theorem zjn(n:Int):∀ (k:Nat) (b:List Int),k<=8->b.length+k<=100000000000000->NY (n,(k:Int)-1,b,())=some (.inl (b++be n k,()))
 | 0,b,_,hb=>by
  unfold NY
  rw[dm (y:=.inl (b,()))]
  ·simp[be]
  ·show IL n (((0:Nat):Int)-1) b=_
   unfold IL
   rw[decide_eq_false (by omega)];rfl
 | k+1,b,hk,hb=>by
  have ih:=zjn n k (b++[n / 2 ^ (8*k) % 256]) (by omega) (by simp;omega)
  unfold NY at ih ⊢
  rw[iI (s':=(n,(k:Int)-1,b++[n / 2 ^ (8*k) % 256],())),ih]
  ·simp[be]
  ·show IL n (((k+1:Nat):Int)-1) b=_
   unfold IL
   have e:((k+1:Nat):Int)-1=(k:Int):=by omega
   have w:IntKind.i64.wrap (8*(k:Int))=((8*k:Nat):Int):=by rw[bA (by omega) (by omega)];omega
   simp only[aW,e]
   rw[decide_eq_true (by omega),bz,w,aC (by omega),SU (8*k) (by show 8*k<=64;omega),od,aC (by simp only[kj,List.length_cons,List.length_nil];omega),bA (by omega) (by omega)]
theorem WC(n:Int)(k:Nat)(hk:k<=8)(b:List Int)(hb:b.length<=90000000000000):vA n (k:Int) b=some (b++be n k,()):=by
 unfold vA
 rw[aW,bA (by omega) (by omega),zjn n k b hk (by omega)]
 rfl
theorem Gd(n:Int)(b:List Int)(hb:b.length<=90000000000000):vB n b=some (b++be n 8,()):=by
 unfold vB
 rw[show vA n 8 b=_ from WC n 8 (by omega) b hb];rfl
theorem xx(n:Int)(b:List Int)(hb:b.length<=90000000000000):rm n b=some (b++be n 2,()):=by
 unfold rm
 rw[show vA n 2 b=_ from WC n 2 (by omega) b hb];rfl
theorem zF{n:Int}(hn:cd n)(b:List Int)(hb:b.length<=90000000000000):rq n b=some (b++be n 4,()):=by
 unfold rq
 have h0:=hn.1
 have h1:=hn.2
 rw[aW,bA (by omega) (by omega),show vA n 4 b=_ from WC n 4 (by omega) b hb];rfl
theorem zjo(l:List UInt8):pU (ofBytes l)=l:=by
 unfold pU ofBytes
 rw[List.map_map]
 have:(fun z:Int=>UInt8.ofNat z.toNat)∘(fun b:UInt8=>((b.toNat:Nat):Int))=id:=by
  funext b;simp
 rw[this];simp
theorem zBo{l:List Int}(h:bN l):ofBytes (pU l)=l:=by
 unfold pU ofBytes
 rw[List.map_map]
 conv=>rhs;rw[<-List.map_id l]
 apply List.map_congr_left
 intro c hc
 have:=h c hc
 have h0:=this.1
 have h1:=this.2
 simp only[Function.comp,id]
 rw[UInt8.toNat_ofNat_of_lt' (by show c.toNat<256;omega)]
 omega
theorem zjp(l:List UInt8):bN (ofBytes l):=by
 intro c hc
 simp only[ofBytes,List.mem_map] at hc
 obtain⟨b,_,rfl⟩:=hc
 exact⟨by omega,by have:=b.toNat_lt;omega⟩
theorem Px(l:List Int):(pU l).length=l.length:=by simp[pU]
theorem Cv(l:List UInt8):(ofBytes l).length=l.length:=by simp[ofBytes]
abbrev bV:Type:=List Int×Bool
def bE(n:Nat)(r:bV):List Int×bV:=if r.2=true\/r.1.length<n then (List.replicate n 0,(r.1,true)) else (r.1.take n,(r.1.drop n,false))
theorem WD(n:Nat)(hn:n<=1000)(r:bV):yP (n:Int) r=some ((bE n r).1,(bE n r).2,()):=by
 unfold yP bE
 simp only[cc,dI,aW,oi,Bool.or_eq_true,decide_eq_true_eq,Int.toNat_natCast]
 by_cases h:r.2=true\/r.1.length<n
 ·rw[if_pos (h.imp_right fun h=>by omega),if_pos h,aC (by simp only[kj];omega)]
  have:(r.2||decide ((n:Int)>(r.1.length:Int)))=true:=by simp;omega
  rw[this]
 ·have h2:¬ (r.1.length<n):=fun hh=>h (.inr hh)
  rw[if_neg (fun hh=>h (hh.imp_right fun hh=>by omega)),if_neg h,aC (by omega),aC (by omega)]
  have:(r.2||decide ((n:Int)>(r.1.length:Int)))=false:=by simp;exact⟨by simpa using fun hh=>h (.inl hh),by omega⟩
  rw[this]
  simp[cE,List.take_of_length_le]
theorem rP(n:Nat)(r:bV):(bE n r).1.length=n:=by
 unfold bE
 split
 ·simp
 ·rename_i h;rw[List.length_take];omega
theorem dj{n:Nat}{r:bV}(h:bN r.1):bN (bE n r).1/\bN (bE n r).2.1:=by
 unfold bE
 split
 ·exact⟨fun c hc=>by rw[List.eq_of_mem_replicate hc];exact vK,h⟩
 ·exact⟨zBn h n,zBm h n⟩
def de(l:List Int):Int:=l.foldl (fun a c=>a*256+c) 0
theorem zjq(l:List Int)(c:Int):de (l++[c])=de l*256+c:=by simp[de]
theorem zBp(a b:Int):wb .i64 a b=wb .i64 (a % 18446744073709551616) b:=by
 unfold wb
 have:BitVec.ofInt IntKind.i64.bits a=BitVec.ofInt IntKind.i64.bits (a % 18446744073709551616):=by
  apply BitVec.eq_of_toNat_eq
  rw[BitVec.toNat_ofInt,BitVec.toNat_ofInt]
  show (a % 18446744073709551616).toNat=(a % 18446744073709551616 % 18446744073709551616).toNat
  rw[Int.emod_emod_of_dvd _ (Int.dvd_refl _)]
 rw[this]
theorem zjr{m c:Int}(hc:ig c):IntKind.i64.wrap (wb .i64 (we .i64 (IntKind.i64.wrap m) 8) (IntKind.i64.wrap c))=IntKind.i64.wrap (m*256+c):=by
 have h0:=hc.1
 have h1:=hc.2
 rw[show (8:Int)=((8:Nat):Int) from rfl,NV 8 (by show 8<=64;omega),bA (n:=c) (by omega) (by omega),zBp]
 have hb:=zpM (k:=.i64) (a:=IntKind.i64.wrap (IntKind.i64.wrap m*2 ^ 8) % 18446744073709551616) (b:=c) 8 (by omega) h0 (by omega) (by rw[qS,qS];omega)
  (by show _<(2:Int) ^ 64;rw[qS,qS];omega)
 rw[hb,qS,qS,qS,qS]
 omega
def cQ(k:Nat)(r:bV):Int:=IntKind.i64.wrap (de (bE k r).1)
theorem zBq{l:List Int}(hl:bN l)(hlen:l.length<=1000)(u:List Int)(v:Bool):S5 (0,l,((l.length:Nat):Int),0,u,v,())=some (.inl (IntKind.i64.wrap (de l),u,v,())):=by
 unfold S5
 have:=jL (f:=fun s:Int×(List Int)×Int×Int×(List Int)×Bool×Unit=>Bx s.1 s.2.1 s.2.2.1 s.2.2.2.1 s.2.2.2.2.1 s.2.2.2.2.2.1)
  (fun i=>(IntKind.i64.wrap (de (l.take i)),l,((l.length:Nat):Int),(i:Int),u,v,())) (a:=0) (n:=l.length) (by omega)
  (fun i _ hi=>by
   show Bx (IntKind.i64.wrap (de (l.take i))) l ((l.length:Nat):Int) (i:Int) u v=_
   unfold Bx
   simp only[aW]
   have hg:l.getD (i:Int).toNat 0=l[i]:=by simp[List.getD_eq_getElem?_getD,hi]
   rw[decide_eq_true (by omega),bz,aC (by omega),aC (by omega),hg,zjr (hl _ (List.getElem_mem hi)),bA (n:=(i:Int)+1) (by omega) (by omega),<-zjq,List.take_append_getElem]
   rfl)
 have WE:ct (fun s:Int×(List Int)×Int×Int×(List Int)×Bool×Unit=>Bx s.1 s.2.1 s.2.2.1 s.2.2.2.1 s.2.2.2.2.1 s.2.2.2.2.2.1) (0,l,((l.length:Nat):Int),0,u,v,())=_:=this
 rw[WE,dm (y:=.inl (IntKind.i64.wrap (de l),u,v,()))]
 show Bx (IntKind.i64.wrap (de (l.take l.length))) l ((l.length:Nat):Int) ((l.length:Nat):Int) u v=_
 unfold Bx
 rw[decide_eq_false (by omega),List.take_length];rfl
theorem Py(k:Nat)(hk:k<=8){r:bV}(hr:bN r.1):sK (k:Int) r=some (cQ k r,(bE k r).2,()):=by
 unfold sK
 rw[WD k (by omega) r]
 simp only[au]
 rw[zBq (dj hr).1 (by rw[rP];omega)]
 rfl
theorem Cw{r:bV}(hr:bN r.1):ug r=some (cQ 1 r,(bE 1 r).2,()):=by
 unfold ug
 rw[show sK 1 r=_ from Py 1 (by omega) hr];rfl
theorem Ge{r:bV}(hr:bN r.1):vC r=some (cQ 8 r,(bE 8 r).2,()):=by
 unfold vC
 rw[show sK 8 r=_ from Py 8 (by omega) hr];rfl
theorem xy{r:bV}(hr:bN r.1):rr r=some (cQ 2 r,(bE 2 r).2,()):=by
 unfold rr
 rw[show sK 2 r=_ from Py 2 (by omega) hr];rfl
theorem Cx:∀ (l:List Int),bN l->∀ a:Int,0<=a->0<=l.foldl (fun a c=>a*256+c) a/\l.foldl (fun a c=>a*256+c) a<(a+1)*256 ^ l.length
 | [],_,a,ha=>by simp;omega
 | c::l,h,a,ha=>by
  have hc:=h c (by simp)
  have h0:=hc.1
  have h1:=hc.2
  obtain⟨i1,i2⟩:=Cx l (fun x hx=>h x (by simp[hx])) (a*256+c) (by omega)
  refine⟨i1,Int.lt_of_lt_of_le i2 ?_⟩
  rw[List.length_cons,Int.pow_succ,Int.mul_comm (256 ^ l.length) 256,<-Int.mul_assoc]
  exact Int.mul_le_mul_of_nonneg_right (by omega) (Int.le_of_lt (Int.pow_pos (by decide)))
theorem vL{r:bV}(hr:bN r.1):cd (cQ 4 r)/\cQ 4 r=de (bE 4 r).1:=by
 have:=Cx (bE 4 r).1 (dj hr).1 0 (by omega)
 rw[rP] at this
 have h1:0<=de (bE 4 r).1:=this.1
 have h2:de (bE 4 r).1<(0+1)*256 ^ 4:=this.2
 have e:cQ 4 r=de (bE 4 r).1:=bA (by omega) (by omega)
 exact⟨by rw[e];exact⟨h1,by omega⟩,e⟩
theorem Gf{r:bV}(hr:bN r.1):ig (cQ 1 r)/\cQ 1 r=de (bE 1 r).1:=by
 have:=Cx (bE 1 r).1 (dj hr).1 0 (by omega)
 rw[rP] at this
 have h1:0<=de (bE 1 r).1:=this.1
 have h2:de (bE 1 r).1<(0+1)*256 ^ 1:=this.2
 have e:cQ 1 r=de (bE 1 r).1:=bA (by omega) (by omega)
 exact⟨by rw[e];exact⟨h1,by omega⟩,e⟩
theorem xz{r:bV}(hr:bN r.1):ri r=some (cQ 4 r,(bE 4 r).2,()):=by
 unfold ri
 have:=(vL hr).1
 have h0:=this.1
 have h1:=this.2
 rw[show sK 4 r=_ from Py 4 (by omega) hr]
 simp only[au,aW]
 rw[qY (by omega) (by omega)]
def zG(l:List Int):cH:=(l.getD 0 0,l.getD 1 0,l.getD 2 0,l.getD 3 0,l.getD 4 0,l.getD 5 0)
def nR(m:cH):List Int:=[m.1,m.2.1,m.2.2.1,m.2.2.2.1,m.2.2.2.2.1,m.2.2.2.2.2]
theorem WH(r:bV):By r=some (zG (bE 6 r).1,(bE 6 r).2,()):=by
 unfold By
 rw[show yP 6 r=_ from WD 6 (by omega) r]
 simp only[au]
 rw[aC (by rw[rP];omega)]
 rfl
def vM(c:UInt8):Bool:=(decide (97<=c.toNat)&&decide (c.toNat<=122))||(decide (48<=c.toNat)&&decide (c.toNat<=57))
def rQ(o:List UInt8):Bool:=o.all vM&&(o != []&&decide (o.length<=8))
theorem zBr(c:UInt8):((decide (((c.toNat:Nat):Int)<97)||decide (((c.toNat:Nat):Int)>122))&&(decide (((c.toNat:Nat):Int)<48)||decide (((c.toNat:Nat):Int)>57)))=!vM c:=by
 unfold vM
 rw[Bool.eq_iff_iff]
 simp
 omega
theorem zBs{o:List UInt8}(ho:o.length<=140737488355328)(i:Nat)(hi:i<o.length):
  EN o ((o.length:Nat):Int) (i:Int)=if vM (o.getD i 0)=true then some (.inl (o,((o.length:Nat):Int),((i+1:Nat):Int),())) else some (.inr (.inr (false,()))):=by
 unfold EN
 simp only[cc,dI,aW]
 rw[decide_eq_true (by omega),bz,aC (by omega),bA (by omega) (by omega)]
 simp only[Int.toNat_natCast]
 rw[aC (by intro h1 h2;rw[h1,h2];rfl),zBr,oi]
 cases vM (o.getD i 0) with
 | true=>rfl
 | false=>rfl
theorem WI{o:List UInt8}(ho:o.length<=140737488355328):Bz o=some (rQ o,()):=by
 unfold Bz
 have L:S7 (o,((o.length:Nat):Int),0,())=some (if (List.range' 0 o.length).all (fun i=>vM (o.getD i 0))=true then .inl (o,()) else .inr (false,())):=by
  unfold S7
  exact NU (f:=fun s:(List UInt8)×Int×Int×Unit=>EN s.1 s.2.1 s.2.2.1) (fun i=>(o,((o.length:Nat):Int),(i:Int),())) (fun i=>vM (o.getD i 0)) (.inr (false,())) (.inl (o,())) o.length
   (fun i hi=>by
    have:=zBs ho i hi
    simp only at this ⊢
    rw[this])
   (by
    show EN o ((o.length:Nat):Int) ((o.length:Nat):Int)=_
    unfold EN
    rw[decide_eq_false (by omega)];rfl) o.length 0 (by omega)
 rw[L]
 have fA:(List.range' 0 o.length).all (fun i=>vM (o.getD i 0))=o.all vM:=by
  rw[Bool.eq_iff_iff,List.all_eq_true,List.all_eq_true]
  constructor
  ·intro h c hc
   obtain⟨i,hi,rfl⟩:=List.mem_iff_getElem.1 hc
   have:=h i (by simp[List.mem_range'];exact hi)
   simpa [List.getD_eq_getElem?_getD,hi] using this
  ·intro h i hi
   have dD:i<o.length:=by simpa [List.mem_range'] using hi
   have:=h o[i] (List.getElem_mem dD)
   simpa [List.getD_eq_getElem?_getD,dD] using this
 rw[fA]
 unfold rQ
 cases h:o.all vM with
 | false=>rfl
 | true=>
  simp only[if_true,au,dV,cc,aW,Bool.true_and]
  congr 2
  rw[show decide (((o.length:Nat):Int)<=8)=decide (o.length<=8) from by simp;omega]
  rfl
def xA(e:cw):Bool:=
 if e.1=1 then rQ e.2.1.2.1&&!(e.2.1.2.2.1 % 2==1) else if e.1=5 then decide (0<=e.2.2.2.1)&&decide (e.2.2.2.1<4) else decide (0<=e.1)&&decide (e.1<8)
theorem zBt{m:cH}(hm:ig m.1):IJ m=some (m.1 % 2==1,()):=by
 unfold IJ lr
 rw[aC (by decide),zoH _ hm.1];rfl
theorem zBu{e:cw}(ho:e.2.1.2.1.length<=140737488355328)(hm:ig e.2.1.2.2.1):rj e=some (xA e,()):=by
 unfold rj xA
 simp only[cc,aW,oi,beq_iff_eq,ge_iff_le]
 by_cases h1:e.1=1
 ·rw[if_pos h1,if_pos h1,WI ho]
  simp only[au]
  rw[zBt hm]
  simp
 ·rw[if_neg h1,if_neg h1]
  by_cases h5:e.1=5
  ·rw[if_pos h5,if_pos h5]
  ·rw[if_neg h5,if_neg h5]
def gu(r:bV):aX×bV:=
 let r1:=(bE 4 r).2
 let r2:=(bE 1 r1).2
 let t:=bE (cQ 1 r1).toNat r2
 ((cQ 4 r,pU t.1,zG (bE 6 t.2).1),(bE 6 t.2).2)
def lI(r:bV):(Int×Int)×bV:=((cQ 4 r,cQ 1 (bE 4 r).2),(bE 1 (bE 4 r).2).2)
theorem zjs{r:bV}(hr:bN r.1):EM r=some ((gu r).1,(gu r).2,()):=by
 unfold EM gu
 have h1:=(dj (n:=4) hr).2
 have h2:=(dj (n:=1) h1).2
 have hn:=(Gf h1).1
 have h0:=hn.1
 have h9:=hn.2
 rw[xz hr]
 simp only[au]
 rw[Cw h1]
 simp only[au,aW]
 have ht:=WD (cQ 1 (bE 4 r).2).toNat (by omega) (bE 1 (bE 4 r).2).2
 rw[Int.toNat_of_nonneg h0] at ht
 rw[ht]
 simp only[au]
 rw[WH]
 rfl
theorem WJ{r:bV}(hr:bN r.1):BB r=some ((lI r).1,(lI r).2,()):=by
 unfold BB lI
 rw[xz hr]
 simp only[au]
 rw[Cw (dj (n:=4) hr).2]
 rfl
def qw(e:cw)(r:bV):cw×Bool:=if r.2=false/\r.1=[]/\xA e=true then (e,true) else (jh,false)
def eS(b:List Int):cw×Bool:=
 let w:=cQ 1 (b,false)
 let r:=(bE 1 (b,false)).2
 if w=1 then qw (w,(gu r).1,(0,0),0,cJ,0) (gu r).2
 else if w=3\/w=4 then qw (w,fC,(lI r).1,0,cJ,0) (lI r).2
 else if w=5 then qw (w,(cQ 4 r,[],cJ),(0,0),cQ 1 (bE 4 r).2,zG (bE 6 (bE 1 (bE 4 r).2).2).1,0) (bE 6 (bE 1 (bE 4 r).2).2).2
 else if w=2\/w=6\/w=7 then qw (w,(cQ 4 r,[],cJ),(0,0),0,cJ,0) (bE 4 r).2
 else qw (w,fC,(0,0),0,cJ,0) r
theorem mw{l:List Int}(h:bN l)(i:Nat):ig (l.getD i 0):=by
 rw[List.getD_eq_getElem?_getD]
 cases hh:l[i]? with
 | none=>exact vK
 | some c=>exact h c (List.mem_of_getElem? hh)
theorem zBv{e:cw}{r:bV}(ho:e.2.1.2.1.length<=140737488355328)(hm:ig e.2.1.2.2.1):
  (ab (r.2||decide (((r.1.length:Nat):Int)>0)) fun v3=>aj ((!v3)=true->(!v3)=true) (bU (!v3) (rj e) (false,()) fun y4=>aj ((!v3)=true->(!v3)=true) (aj (v3=false->(!v3)=true)
   (ab (v3||!y4.1) fun v5=>ay v5 (some (jh,false,())) (some (e,true,()))))))=some ((qw e r).1,(qw e r).2,()):=by
 rw[zBu ho hm]
 simp only[cc,dI,aW,gX]
 unfold qw
 by_cases h:r.2=false/\r.1=[]/\xA e=true
 ·rw[if_pos h,h.1,h.2.1,h.2.2];rfl
 ·rw[if_neg h]
  have:((r.2||decide (((r.1.length:Nat):Int)>0))||!xA e)=true:=by
   cases h2:r.2 with
   | true=>rfl
   | false=>
    cases h3:r.1 with
    | cons a l=>simp
    | nil=>
     cases h4:xA e with
     | false=>rfl
     | true=>exact absurd ⟨h2,h3,h4⟩ h
  rw[this];rfl
theorem Lq{b:List Int}(hb:bN b):yR b=some ((eS b).1,(eS b).2,()):=by
 unfold yR eS
 have h1:=(dj (n:=1) (r:=(b,false)) hb).2
 rw[Cw (r:=(b,false)) hb]
 simp only[au]
 generalize hw:cQ 1 (b,false)=w
 generalize (bE 1 (b,false)).2=r at h1
 have h4:=(dj (n:=4) h1).2
 have h5:=(dj (n:=1) h4).2
 have hn:=(Gf h4).1
 have z:fC.2.1.length<=140737488355328:=by show 0<=_;omega
 have z8:ig fC.2.2.1:=vK
 have zo:([]:List UInt8).length<=140737488355328:=by show 0<=_;omega
 have F:=fun (e:cw) (r:bV) ho hm=>zBv (e:=e) (r:=r) ho hm
 rw[aW]
 by_cases e1:w=1
 ·subst e1
  rw[if_pos rfl,zjs h1]
  simp only[beq_self_eq_true,bz,au,cc,dI]
  have hlen:(gu r).1.2.1.length<=140737488355328:=by
   show (pU (bE (cQ 1 (bE 4 r).2).toNat _).1).length<=_
   rw[Px,rP]
   have:=hn.2;omega
  have hm:ig (gu r).1.2.2.1:=by
   show ig ((bE 6 _).1.getD 0 0)
   exact mw (dj (dj h5).2).1 0
  simpa only[cc,dI] using F (1,(gu r).1,(0,0),0,cJ,0) (gu r).2 hlen hm
 rw[if_neg e1,show (w==1)=false from by simpa using e1,bn,aW]
 by_cases e3:w=3
 ·subst e3
  rw[if_pos (.inl rfl),WJ h1]
  simp only[beq_self_eq_true,bz,au,cc,dI]
  simpa only[cc,dI] using F (3,fC,(lI r).1,0,cJ,0) (lI r).2 z z8
 rw[show (w==3)=false from by simpa using e3,bn,aW]
 by_cases e4:w=4
 ·subst e4
  rw[if_pos (.inr rfl),WJ h1]
  simp only[beq_self_eq_true,bz,au,cc,dI]
  simpa only[cc,dI] using F (4,fC,(lI r).1,0,cJ,0) (lI r).2 z z8
 rw[show (w==4)=false from by simpa using e4,bn,aW,if_neg (by omega)]
 by_cases e5:w=5
 ·subst e5
  rw[if_pos rfl,xz h1]
  simp only[beq_self_eq_true,bz,au]
  rw[Cw h4]
  simp only[au]
  rw[WH]
  simp only[au,cc,dI]
  simpa only[cc,dI] using F (5,(cQ 4 r,[],cJ),(0,0),cQ 1 (bE 4 r).2,zG (bE 6 (bE 1 (bE 4 r).2).2).1,0) (bE 6 (bE 1 (bE 4 r).2).2).2 zo vK
 rw[show (w==5)=false from by simpa using e5,bn,aW,if_neg e5]
 by_cases e2:w=2
 ·subst e2
  rw[if_pos (by omega),xz h1]
  simp only[beq_self_eq_true,bz,au,cc,dI]
  simpa only[cc,dI] using F (2,(cQ 4 r,[],cJ),(0,0),0,cJ,0) (bE 4 r).2 zo vK
 rw[show (w==2)=false from by simpa using e2,bn,aW]
 by_cases e6:w=6
 ·subst e6
  rw[if_pos (by omega),xz h1]
  simp only[beq_self_eq_true,bz,au,cc,dI]
  simpa only[cc,dI] using F (6,(cQ 4 r,[],cJ),(0,0),0,cJ,0) (bE 4 r).2 zo vK
 rw[show (w==6)=false from by simpa using e6,bn,aW]
 by_cases e7:w=7
 ·subst e7
  rw[if_pos (by omega),xz h1]
  simp only[beq_self_eq_true,bz,au,cc,dI]
  simpa only[cc,dI] using F (7,(cQ 4 r,[],cJ),(0,0),0,cJ,0) (bE 4 r).2 zo vK
 rw[show (w==7)=false from by simpa using e7,bn,if_neg (by omega)]
 simp only[cc,dI]
 simpa only[cc,dI] using F (w,fC,(0,0),0,cJ,0) r z z8
def gP(h:aX):List Int:=be h.1 4++[(h.2.1.length:Int) % 256]++ofBytes h.2.1++nR h.2.2
def cS(e:cw):List Int:=
 [e.1 % 256]++(if e.1=1 then gP e.2.1 else if e.1=3\/e.1=4 then be e.2.2.1.1 4++[e.2.2.1.2 % 256] else if e.1=5 then be e.2.1.1 4++[e.2.2.2.1 % 256]++nR e.2.2.2.2.1
  else if e.1=2\/e.1=6\/e.1=7 then be e.2.1.1 4 else [])
structure rR(e:cw):Prop where
 a:cd e.2.1.1
 o:e.2.1.2.1.length<=1000000
 m:iZ e.2.1.2.2
 b:cd e.2.2.1.1
 s:iZ e.2.2.2.2.1
 w:-9223372036854775808<=e.1/\e.1<=9223372036854775807
theorem PA{m:cH}(h:iZ m):bN (nR m):=by
 intro c hc
 simp only[nR,List.mem_cons,List.not_mem_nil,or_false] at hc
 rcases hc with rfl | rfl | rfl | rfl | rfl | rfl
 ·exact h.h0
 ·exact h.h1
 ·exact h.h2
 ·exact h.h3
 ·exact h.h4
 ·exact h.h5
theorem zjt{h:aX}(ha:cd h.1)(ho:h.2.1.length<=1000000)(b:List Int)(hb:b.length<=80000000000000):xc h b=some (b++gP h,()):=by
 unfold xc gP
 rw[zF ha b (by omega)]
 simp only[au,aW]
 have l4:=cU h.1 4
 have lo:=Cv h.2.1
 rw[aC (by simp only[kj,List.length_append,List.length_cons,List.length_nil,l4];omega),aC (by simp only[kj,List.length_append,List.length_cons,List.length_nil,l4,lo];omega),aC (by decide),
  aC (by simp only[kj,List.length_append,List.length_cons,List.length_nil,l4,lo];omega),od]
 simp[nR]
theorem WL{x:Int×Int}(ha:cd x.1)(b:List Int)(hb:b.length<=80000000000000):BC x b=some (b++(be x.1 4++[x.2 % 256]),()):=by
 unfold BC
 rw[zF ha b (by omega)]
 have l4:=cU x.1 4
 simp only[au,aW]
 rw[aC (by simp only[kj,List.length_append,List.length_cons,List.length_nil,l4];omega),od]
 simp
theorem zju{e:cw}(h:rR e):sN e=some (cS e,()):=by
 unfold sN cS
 have l4:=cU e.2.1.1 4
 have s1:∀ c:Int,([c]:List Int).length<=80000000000000:=fun c=>by simp
 rw[aW,od,zjt h.a h.o [e.1 % 256] (s1 _),WL h.b [e.1 % 256] (s1 _),zF h.a [e.1 % 256] (by have:=s1 (e.1 % 256);omega)]
 simp only[au,aW,oi,beq_iff_eq]
 rw[aC (by simp only[kj,List.length_append,List.length_cons,List.length_nil,l4];omega),aC (by decide),aC (by simp only[kj,List.length_append,List.length_cons,List.length_nil,l4];omega),od]
 by_cases e1:e.1=1
 ·simp[e1]
 by_cases e3:e.1=3
 ·simp[e3]
 by_cases e4:e.1=4
 ·simp[e4]
 by_cases e5:e.1=5
 ·simp[e5,nR]
 by_cases e2:e.1=2
 ·simp[e2]
 by_cases e6:e.1=6
 ·simp[e6]
 by_cases e7:e.1=7
 ·simp[e7]
 simp[e1,e2,e3,e4,e5,e6,e7]
theorem hJ{n:Nat}{x y:List Int}(h:x.length=n):bE n (x++y,false)=(x,(y,false)):=by
 unfold bE
 have hn:¬ ((x++y,false).2=true\/(x++y,false).1.length<n):=by
  rintro (hh | hh)
  ·cases hh
  ·have:(x++y).length<n:=hh
   rw[List.length_append] at this;omega
 rw[if_neg hn]
 simp[<-h]
theorem PB{n:Nat}{x:List Int}(h:x.length=n):bE n (x,false)=(x,([],false)):=by
 have:=hJ (y:=[]) h
 rwa [List.append_nil] at this
theorem de4{a:Int}(h:cd a):de (be a 4)=a:=by
 have h0:=h.1
 have h1:=h.2
 simp only[be,de,List.foldl_cons,List.foldl_nil]
 omega
theorem xB{a:Int}(h:cd a)(y:List Int):cQ 4 (be a 4++y,false)=a:=by
 have h0:=h.1
 have h1:=h.2
 unfold cQ
 rw[hJ (cU a 4)]
 simp only
 rw[de4 h,bA (by omega) (by omega)]
theorem xC{c:Int}(h:ig c)(y:List Int):cQ 1 (c::y,false)=c:=by
 have h0:=h.1
 have h1:=h.2
 unfold cQ
 rw[show (c::y)=[c]++y from rfl,hJ (by rfl)]
 simp only[de,List.foldl_cons,List.foldl_nil]
 rw[bA (by omega) (by omega)];omega
theorem PC(m:cH):zG (nR m)=m:=rfl
def j6(e:cw):cw:=
 if e.1=1 then (e.1,e.2.1,(0,0),0,cJ,0)
 else if e.1=2\/e.1=6\/e.1=7 then (e.1,(e.2.1.1,[],cJ),(0,0),0,cJ,0)
 else if e.1=3\/e.1=4 then (e.1,fC,(e.2.2.1.1,e.2.2.1.2 % 256),0,cJ,0)
 else if e.1=5 then (e.1,(e.2.1.1,[],cJ),(0,0),e.2.2.2.1 % 256,e.2.2.2.2.1,0)
 else (e.1,fC,(0,0),0,cJ,0)
theorem zjv{e:cw}(h:rR e)(ho:e.2.1.2.1.length<=100)(hw:0<=e.1/\e.1<=255):eS (cS e)=qw (j6 e) ([],false):=by
 have PD:ig (e.1 % 256):=⟨by omega,by omega⟩
 have ew:e.1 % 256=e.1:=by omega
 unfold eS cS j6
 rw[List.singleton_append,xC PD,show ∀ y:List Int,(bE 1 ((e.1 % 256)::y,false)).2=(y,false) from fun y=>by rw[show ((e.1 % 256)::y)=[e.1 % 256]++y from rfl,hJ (by rfl)],ew]
 simp only
 by_cases e1:e.1=1
 ·simp only[e1,if_true]
  have hr:gu (gP e.2.1,false)=(e.2.1,([],false)):=by
   unfold gu gP
   have IF:ig ((e.2.1.2.1.length:Int) % 256):=⟨by omega,by omega⟩
   simp only[List.append_assoc]
   rw[xB h.a,hJ (cU _ 4)]
   simp only
   rw[List.singleton_append,xC IF,show ∀ (c:Int) (y:List Int),(bE 1 (c::y,false)).2=(y,false) from fun c y=>by rw[show (c::y)=[c]++y from rfl,hJ (by rfl)]]
   rw[hJ (by rw[Cv];omega)]
   simp only
   rw[PB (by rfl),zjo,PC]
  rw[hr]
 have n1:¬ e.1=1:=e1
 by_cases PE:e.1=3\/e.1=4
 ·have n2:¬ (e.1=2\/e.1=6\/e.1=7):=by omega
  simp only[if_neg n1,if_pos PE,if_neg n2]
  have hr:lI (be e.2.2.1.1 4++[e.2.2.1.2 % 256],false)=((e.2.2.1.1,e.2.2.1.2 % 256),([],false)):=by
   unfold lI
   rw[xB h.b,hJ (cU _ 4)]
   simp only
   rw[xC ⟨by omega,by omega⟩,PB (by rfl)]
  rw[hr]
 by_cases e5:e.1=5
 ·have n2:¬ (e.1=2\/e.1=6\/e.1=7):=by omega
  simp only[if_neg n1,if_neg PE,if_pos e5,if_neg n2]
  simp only[List.append_assoc]
  rw[xB h.a,hJ (cU _ 4)]
  simp only
  rw[List.singleton_append,xC ⟨by omega,by omega⟩,show ∀ (c:Int) (y:List Int),(bE 1 (c::y,false)).2=(y,false) from fun c y=>by rw[show (c::y)=[c]++y from rfl,hJ (by rfl)]]
  rw[PB (by rfl),PC]
 by_cases e2:e.1=2\/e.1=6\/e.1=7
 ·simp only[if_neg n1,if_neg PE,if_neg e5,if_pos e2]
  have:=xB h.a []
  rw[List.append_nil] at this
  rw[this,PB (cU _ 4)]
 ·simp only[if_neg n1,if_neg PE,if_neg e5,if_neg e2]
theorem PF{c:Int}(h:0<=c/\c<65536)(y:List Int):cQ 2 (be c 2++y,false)=c:=by
 have h0:=h.1
 have h1:=h.2
 unfold cQ
 rw[hJ (cU c 2)]
 simp only[be,de,List.foldl_cons,List.foldl_nil]
 rw[bA (by omega) (by omega)];omega
theorem Gg{c:Int}(h:-9223372036854775808<=c/\c<=9223372036854775807)(y:List Int):cQ 8 (be c 8++y,false)=c:=by
 have h0:=h.1
 have h1:=h.2
 unfold cQ
 rw[hJ (cU c 8)]
 simp only[be,de,List.foldl_cons,List.foldl_nil]
 rw[qS];omega
theorem zBy{n:Int}:kW n=some (if n<0 then 0 else if n>1099511627776 then 1099511627776 else n,()):=by
 unfold kW
 congr 2
 split<;>(try split)<;>(try split)<;>omega
theorem gv{a b:List Int}(ha:bN a)(hb:bN b):bN (a++b):=by
 intro c hc
 rcases List.mem_append.1 hc with h | h
 ·exact ha c h
 ·exact hb c h
theorem zBz:bN []:=fun c hc=>by simp at hc
theorem zjw(e:cw):qw e ([],false)=if xA e=true then (e,true) else (jh,false):=by
 unfold qw;simp
end Go.Tr
