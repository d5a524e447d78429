/- The disk as plain data: what its calls do, exactly. The log as plain data: heads, sums, rows; what its calls do, exactly. The log's calls that write: clear, put, Append, Begin, exactly. The log's Append and Begin, exactly. Conditions: none but those that each theorem states. -/
import Derived.Test.YtploofmfghjijaaGreatDaeD
import Derived.Test.YtploofmfghjijaaGreatCodecS
namespace Go.Tr
open Go
set_option linter.unusedVariables false
set_option linter.unusedSimpArgs false
structure Dk where
 kept:List (List Int)
 wait:List (Int×List Int)
 left:Int
 fail:Int
 down:Bool
 calls:Int
abbrev zS:List Int:=List.replicate 64 0
def less(n:Int):Int:=if n-1 > -1 then n-1 else -1
def Dk.called(d:Dk):Dk:={ d with left:=less d.left,fail:=less d.fail,down:=d.down||d.left==0,calls:=d.calls+1 }
def Dk.err(d:Dk):Int:=if d.down||d.left==0 then 9 else if d.fail==0 then 10 else 0
def Dk.put(d:Dk)(a:Int)(s:List Int):Dk:={ d with wait:=d.wait++[(a,s)] }
def qy(k:List (List Int))(w:Int×List Int):List (List Int):=k.set w.1.toNat w.2
def Dk.laid(d:Dk):Dk:={ d with kept:=d.wait.foldl qy d.kept,wait:=[] }
def pI(a:Int)(o:List Int)(w:Int×List Int):List Int:=if w.1==a then w.2 else o
def Dk.dC(d:Dk)(a:Int):List Int:=d.wait.foldl (pI a) (d.kept.getD a.toNat zS)
inductive fO where
 | w (a:Int) (s:List Int)
 | f
def Dk.dT(d:Dk)(a:Int)(s:List Int):Int×Dk:=if d.down=true then (9,d) else if a<0\/a>=d.kept.length then (3,d) else if d.err=10 then (10,d.called) else (d.err,d.called.put a s)
def Dk.ix(d:Dk):Int×Dk:=if d.down=true then (9,d) else if d.err=0 then (0,d.called.laid) else (d.err,d.called)
def fO.run(d:Dk):fO->Int×Dk
 | .w a s=>d.dT a s
 | .f=>d.ix
def runs:List fO->Dk->Int×Dk
 | [],d=>(0,d)
 | o::t,d=>if (o.run d).1=0 then runs t (o.run d).2 else o.run d
def qz(s:List Int):Prop:=s.length=64/\bN s
theorem PG:qz zS:=⟨by simp,fun c hc=>by rw[List.eq_of_mem_replicate hc];exact vK⟩
def fO.Ok:fO->Prop
 | .w _ s=>qz s
 | .f=>True
structure Dk.Ok(d:Dk)(N:Nat):Prop where
 l0:-1<=d.left
 l1:d.left<=1000000000000
 f0:-1<=d.fail
 f1:d.fail<=1000000000000
 c0:0<=d.calls
 c1:d.calls<=N
 wc:(d.wait.length:Int)<=d.calls
 k1:d.kept.length<=512
 wi:∀ p∈d.wait,0<=p.1/\p.1<d.kept.length
 ks:∀ s∈d.kept,qz s
 ws:∀ p∈d.wait,qz p.2
theorem Dk.Ok.mono{d:Dk}{N M:Nat}(h:d.Ok N)(hm:N<=M):d.Ok M:=⟨h.l0,h.l1,h.f0,h.f1,h.c0,by have:=h.c1;omega,h.wc,h.k1,h.wi,h.ks,h.ws⟩
theorem zjx(n:Int):-1<=less n:=by unfold less;split<;>omega
theorem zjy{n m:Int}(h:n<=m)(h0:-1<=m):less n<=m:=by unfold less;split<;>omega
theorem Dk.Ok.called{d:Dk}{N:Nat}(h:d.Ok N):d.called.Ok (N+1):=
 ⟨zjx _,zjy h.l1 (by omega),zjx _,zjy h.f1 (by omega),by have:=h.c0;show 0<=d.calls+1;omega,by have:=h.c1;show d.calls+1<=_;omega,by have:=h.wc;show _<=d.calls+1;show (d.wait.length:Int)<=_;omega,h.k1,h.wi,h.ks,h.ws⟩
theorem PH(ws:List (Int×List Int)):∀ k:List (List Int),(ws.foldl qy k).length=k.length:=by
 induction ws with
 | nil=>intro k;rfl
 | cons w ws ih=>intro k;rw[List.foldl_cons,ih];simp[qy]
theorem zBA(ws:List (Int×List Int)):∀ k:List (List Int),(∀ s∈k,qz s)->(∀ p∈ws,qz p.2)->∀ s∈ws.foldl qy k,qz s:=by
 induction ws with
 | nil=>intro k h _;exact h
 | cons w ws ih=>
  intro k h h2
  rw[List.foldl_cons]
  refine ih _ (fun s hs=>?_) fun p hp=>h2 p (by simp[hp])
  rcases List.mem_or_eq_of_mem_set hs with hs | rfl
  ·exact h s hs
  ·exact h2 w (by simp)
theorem Dk.Ok.laid{d:Dk}{N:Nat}(h:d.Ok N):d.laid.Ok N:=
 ⟨h.l0,h.l1,h.f0,h.f1,h.c0,h.c1,by have:=h.c0;simpa [Dk.laid] using this,by show (d.wait.foldl qy d.kept).length<=_;rw[PH];exact h.k1,by intro p hp;exact absurd hp (by simp[Dk.laid]),zBA _ _ h.ks h.ws,by intro p hp;exact absurd hp (by simp[Dk.laid])⟩
theorem Dk.Ok.run{d:Dk}{N:Nat}(h:d.Ok N)(o:fO)(ho:o.Ok):(o.run d).2.Ok (N+1):=by
 cases o with
 | w a s=>
  show (d.dT a s).2.Ok (N+1)
  unfold Dk.dT
  split
  ·exact h.mono (Nat.le_succ N)
  ·split
   ·exact h.mono (Nat.le_succ N)
   ·rename_i h2
    split
    ·exact h.called
    ·have hc:=h.called
     refine⟨hc.l0,hc.l1,hc.f0,hc.f1,hc.c0,hc.c1,?_,hc.k1,?_,hc.ks,?_⟩
     ·show (((d.wait++[(a,s)]).length:Nat):Int)<=d.calls+1
      have:=h.wc
      simp;omega
     ·intro p hp
      rcases List.mem_append.1 hp with hp | hp
      ·exact h.wi p hp
      ·simp at hp;subst hp;exact⟨by omega,by show a<_;show a<(d.kept.length:Int);omega⟩
     ·intro p hp
      rcases List.mem_append.1 hp with hp | hp
      ·exact h.ws p hp
      ·simp at hp;subst hp;exact ho
 | f=>
  show d.ix.2.Ok (N+1)
  unfold Dk.ix
  split
  ·exact h.mono (Nat.le_succ N)
  ·split
   ·exact h.called.laid
   ·exact h.called
theorem Dk.Ok.runs(os:List fO):∀ {d:Dk} {N:Nat},d.Ok N->(∀ o∈os,o.Ok)->(runs os d).2.Ok (N+os.length):=by
 induction os with
 | nil=>intro d N h _;exact h
 | cons o t ih=>
  intro d N h ho
  unfold Go.Tr.runs
  split
  ·exact (ih (h.run o (ho o (by simp))) fun x hx=>ho x (by simp[hx])).mono (by simp;omega)
  ·exact (h.run o (ho o (by simp))).mono (by simp)
theorem PI(d:Dk)(o:fO):(o.run d).2.kept.length=d.kept.length:=by
 cases o with
 | w a s=>
  show (d.dT a s).2.kept.length=_
  unfold Dk.dT;split;rfl;split;rfl;split<;>rfl
 | f=>
  show d.ix.2.kept.length=_
  unfold Dk.ix;split;rfl;split;exact PH _ _;rfl
theorem Cz(os:List fO):∀ d:Dk,(runs os d).2.kept.length=d.kept.length:=by
 induction os with
 | nil=>intro d;rfl
 | cons o t ih=>
  intro d
  unfold runs
  split
  ·rw[ih,PI]
  ·exact PI d o
theorem uy(o:fO)(t:List fO)(d:Dk):runs (o::t) d=if (o.run d).1=0 then runs t (o.run d).2 else o.run d:=rfl
theorem Lr(a b:List fO):∀ d:Dk,runs (a++b) d=if (runs a d).1=0 then runs b (runs a d).2 else runs a d:=by
 induction a with
 | nil=>intro d;simp[runs]
 | cons o t ih=>
  intro d
  rw[List.cons_append,uy,uy]
  by_cases h:(o.run d).1=0
  ·simp only[h,if_true];exact ih _
  ·simp only[h,if_false]
theorem zjz{d:Dk}{N:Nat}(h:d.Ok N)(hN:N<=1000000000000):
  Fx d.left d.fail d.down d.calls d.kept d.wait=some (d.err,d.called.left,d.called.fail,d.called.down,d.called.calls,d.called.kept,d.called.wait,()):=by
 obtain⟨h1,h2,h3,h4,h5,h6,_,_,_,_,_⟩:=h
 unfold Fx
 simp only[aW]
 rw[bA (n:=d.calls+1) (by omega) (by omega),bA (n:=d.left-1) (by omega) (by omega),bA (n:=d.fail-1) (by omega) (by omega)]
 by_cases e1:d.left=0
 ·simp[e1,Dk.err,Dk.called,less]
 ·simp only[beq_false_of_ne e1,bn]
  cases hd:d.down
  ·rw[bn]
   by_cases e2:d.fail=0
   ·simp[e1,e2,hd,Dk.err,Dk.called,less]
   ·simp[e1,e2,hd,Dk.err,Dk.called,less,beq_false_of_ne e2]
  ·simp[e1,hd,Dk.err,Dk.called,less]
theorem WM{d:Dk}{N:Nat}(h:d.Ok N)(hN:N<=1000000000000)(a:Int)(s:List Int):
  BX a s d.left d.fail d.down d.calls d.kept d.wait=some ((d.dT a s).1,(d.dT a s).2.left,(d.dT a s).2.fail,(d.dT a s).2.down,(d.dT a s).2.calls,(d.dT a s).2.kept,(d.dT a s).2.wait,()):=by
 unfold BX
 unfold Dk.dT
 cases hd:d.down
 ·simp only[bn,cc,dI,aW]
  by_cases ha:a<0\/a>=d.kept.length
  ·have:(decide (a<0)||decide (a>=(d.kept.length:Int)))=true:=by simpa using ha
   rw[this]
   simp[ha,hd]
  ·have:(decide (a<0)||decide (a>=(d.kept.length:Int)))=false:=by simpa using ha
   rw[this,bn,<-hd,zjz h hN,au]
   simp only[hd,Bool.false_eq_true,if_false,if_neg ha]
   have HP:=h.called
   by_cases he:d.err=10
   ·simp[he]
   ·have:(d.err != 10)=true:=by simpa using he
    simp only[this,bz,if_neg he]
    rw[aC (by simp),aC (by
     have:=h.wc
     have:=h.c1
     show (d.called.wait.length+1)*72<=140737488355328
     show (d.wait.length+1)*72<=140737488355328
     omega)]
    rfl
 ·simp[hd]
theorem zBB(t19:Int)(d2 d3:Int)(d4:Bool)(d5:Int)(k:List (List Int))(x:List (Int×List Int))(hk:k.length<=512)(hx:x.length<=10000000000000)(hw:∀ p∈x,0<=p.1/\p.1<k.length):
  U2 ((x.length:Int),0,d2,d3,d4,d5,k,x,())=some (.inl (d2,d3,d4,d5,x.foldl qy k,x,())):=by
 unfold U2
 have h0:(((x.length:Int),0,d2,d3,d4,d5,k,x,()):Int×Int×Int×Int×Bool×Int×(List (List Int))×(List (Int×List Int))×Unit)=
  (fun i:Nat=>((x.length:Int),(i:Int),d2,d3,d4,d5,(x.take i).foldl qy k,x,())) 0:=by simp
 rw[h0,jL (n:=x.length) (fun i:Nat=>((x.length:Int),(i:Int),d2,d3,d4,d5,(x.take i).foldl qy k,x,())) (Nat.zero_le _) fun i _ hi=>?_]
 ·refine dm ?_
  show Ku (x.length:Int) (x.length:Int) d2 d3 d4 d5 ((x.take x.length).foldl qy k) x=_
  unfold Ku
  rw[decide_eq_false (by omega),bn,List.take_length]
 ·show Ku (x.length:Int) (i:Int) d2 d3 d4 d5 ((x.take i).foldl qy k) x=_
  unfold Ku
  have hg:x.getD i ((0:Int),zS)=x[i]:=by rw[List.getD_eq_getElem?_getD,List.getElem?_eq_getElem hi];rfl
  have hwi:=hw _ (List.getElem_mem hi)
  rw[decide_eq_true (by omega),bz,aC ⟨by omega,by omega⟩]
  simp only[aW,Int.toNat_natCast,hg,List.set_cons_zero,List.getD_cons_zero,List.length_singleton]
  rw[aC hi,aC (by omega),aC (by omega),aC (by omega),aC (by rw[PH];exact hwi),aC (by rw[PH];omega),bA (by omega) (by omega)]
  congr 6
  rw[List.take_succ_eq_append_getElem hi,List.foldl_append]
  rfl
theorem WN{d:Dk}{N:Nat}(h:d.Ok N)(hN:N<=1000000000000):
  BY d.left d.fail d.down d.calls d.kept d.wait=some (d.ix.1,d.ix.2.left,d.ix.2.fail,d.ix.2.down,d.ix.2.calls,d.ix.2.kept,d.ix.2.wait,()):=by
 unfold BY Dk.ix
 cases hd:d.down
 ·rw[bn,<-hd,zjz h hN,au]
  simp only[hd,Bool.false_eq_true,if_false,aW]
  by_cases he:d.err=0
  ·simp only[he,bne_self_eq_false,bn,if_true]
   rw[zBB 0 d.called.left d.called.fail d.called.down d.called.calls d.called.kept d.called.wait h.k1 (by have:=h.wc;have:=h.c1;show d.wait.length<=_;omega) h.wi,au,dV]
   rfl
  ·have:(d.err != 0)=true:=by simpa using he
   rw[this,bz,if_neg he]
 ·simp[hd]
def Dk.read(d:Dk)(a:Int):List Int×Int:=if d.down then (zS,9) else if a<0\/a>=d.kept.length then (zS,3) else (d.dC a,0)
theorem zBD(a:Int)(x:List (Int×List Int))(o:List Int)(hx:x.length<=10000000000000):
  UN (a,0,0,x,(x.length:Int),0,[zS],[o],())=some (.inl (0,0,[zS],[x.foldl (pI a) o],())):=by
 unfold UN
 have h0:((a,0,0,x,(x.length:Int),0,[zS],[o],()):Int×Nat×Nat×(List (Int×List Int))×Int×Int×(List (List Int))×(List (List Int))×Unit)=
  (fun i:Nat=>(a,0,0,x,(x.length:Int),(i:Int),[zS],[(x.take i).foldl (pI a) o],())) 0:=by simp
 rw[h0,jL (n:=x.length) (fun i:Nat=>(a,0,0,x,(x.length:Int),(i:Int),[zS],[(x.take i).foldl (pI a) o],())) (Nat.zero_le _) fun i _ hi=>?_]
 ·refine dm ?_
  show Km a 0 0 x (x.length:Int) (x.length:Int) [zS] [(x.take x.length).foldl (pI a) o]=_
  unfold Km
  rw[decide_eq_false (by omega),bn,List.take_length]
 ·show Km a 0 0 x (x.length:Int) (i:Int) [zS] [(x.take i).foldl (pI a) o]=_
  unfold Km
  have e0:(Option.rec ((0:Int),zS) (fun val=>val) x[((i:Nat):Int).toNat]? :Int×List Int)=x[i]:=by
   rw[Int.toNat_natCast,List.getElem?_eq_getElem hi]
  rw[decide_eq_true (by omega),bz,aC ⟨by omega,by omega⟩]
  simp only[aW,e0,List.set_cons_zero,List.getD_cons_zero,List.length_singleton,List.take_succ_eq_append_getElem hi,List.foldl_append,List.foldl_cons,List.foldl_nil]
  rw[aC (by omega),aC (by omega),bA (by omega) (by omega)]
  cases hb:(x[i]).1==a
  ·simp only[pI,hb,bn];rfl
  ·simp only[pI,hb,bz]
   rw[aC (by omega),aC (by omega)]
   rfl
theorem zjA{d:Dk}{N:Nat}(h:d.Ok N)(hN:N<=1000000000000)(a:Int):
  Fu (d.kept,d.wait,d.left,d.fail,d.down,d.calls) a=some ((d.read a).1,(d.read a).2,()):=by
 unfold Fu Dk.read
 simp only[aW,cc,dI,List.set_cons_zero,List.getD_cons_zero]
 cases hd:d.down
 ·simp only[bn,Bool.false_eq_true,if_false]
  by_cases ha:a<0\/a>=d.kept.length
  ·have:(decide (a<0)||decide (a>=(d.kept.length:Int)))=true:=by simpa using ha
   rw[this,bz,if_pos ha,aC (by omega),aC (by omega)]
  ·have:(decide (a<0)||decide (a>=(d.kept.length:Int)))=false:=by simpa using ha
   rw[this,bn,if_neg ha,aC (by omega),aC (by omega)]
   rw[zBD _ _ _ (by have:=h.wc;have:=h.c1;omega),au,dV]
   simp only[List.set_cons_zero,List.getD_cons_zero,List.length_singleton]
   rw[aC (by omega),aC (by omega),aC (by omega)]
   rfl
 ·rw[bz,aC (by omega),aC (by omega)];rfl
theorem zBE(a:Int)(ws:List (Int×List Int)):∀ o:List Int,qz o->(∀ p∈ws,qz p.2)->qz (ws.foldl (pI a) o):=by
 induction ws with
 | nil=>intro o h _;exact h
 | cons w ws ih=>
  intro o h h2
  rw[List.foldl_cons]
  refine ih _ ?_ fun p hp=>h2 p (by simp[hp])
  unfold pI
  split
  ·exact h2 w (by simp)
  ·exact h
theorem Dk.Ok.dC{d:Dk}{N:Nat}(h:d.Ok N)(a:Int):qz (d.dC a):=by
 refine zBE a _ _ ?_ h.ws
 rw[List.getD_eq_getElem?_getD]
 cases hh:d.kept[a.toNat]? with
 | none=>exact PG
 | some s=>exact h.ks s (List.mem_of_getElem? hh)
set_option maxRecDepth 100000
def sec(n:Int):Int:=1+(n+63) / 64
theorem zH{n:Int}(h0:0<=n)(h1:n<=1000000000):sP n=some (sec n,()):=by
 unfold sP
 simp only[aW]
 rw[bA (n:=n+64) (by omega) (by omega),bA (n:=n+64-1) (by omega) (by omega),aC (by omega),Int.tdiv_eq_ediv_of_nonneg (by omega),bA (n:=(n+64-1) / 64) (by omega) (by omega),bA (by omega) (by omega)]
 unfold sec
 rw[show n+64-1=n+63 by omega]
def xD(n:Int):Int:=if IntKind.u32.wrap (lr IntKind.u32 n 1)==1 then IntKind.u32.wrap (uP IntKind.u32 (rZ IntKind.u32 n 1) 2197175160) else rZ IntKind.u32 n 1
def iter{α:Type}(f:α->α):Nat->α->α
 | 0,a=>a
 | n+1,a=>iter f n (f a)
theorem zjB{α:Type}(f:α->α):∀ (n:Nat) (a:α),iter f (n+1) a=f (iter f n a)
 | 0,a=>rfl
 | n+1,a=>by
  show iter f (n+1) (f a)=_
  rw[zjB f n (f a)];rfl
def CA(n c:Int):Int:=iter xD 8 (IntKind.u32.wrap (uP IntKind.u32 n (IntKind.u32.wrap c)))
def crc(b:List Int):Int:=IntKind.u32.wrap (uP IntKind.u32 4294967295 (b.foldl CA 4294967295))
theorem zBF(n:Int)(t7:List Int)(t8 t9:Int):UR (n,t7,t8,t9,0,())=some (.inl (iter xD 8 n,t7,t8,t9,())):=by
 unfold UR
 have h0:((n,t7,t8,t9,0,()):Int×(List Int)×Int×Int×Int×Unit)=(fun k:Nat=>(iter xD k n,t7,t8,t9,(k:Int),())) 0:=by simp[iter]
 rw[h0,jL (n:=8) (fun k:Nat=>(iter xD k n,t7,t8,t9,(k:Int),())) (Nat.zero_le _) fun k _ hk=>?_]
 ·refine dm ?_
  show Ko (iter xD 8 n) t7 t8 t9 ((8:Nat):Int)=_
  unfold Ko
  rw[decide_eq_false (by omega),bn]
 ·show Ko (iter xD k n) t7 t8 t9 (k:Int)=some (.inl (iter xD (k+1) n,t7,t8,t9,((k+1:Nat):Int),()))
  have hw:IntKind.i64.wrap ((k:Int)+1)=((k+1:Nat):Int):=by rw[bA (by omega) (by omega)];omega
  unfold Ko
  rw[decide_eq_true (by omega),bz]
  simp only[aW,hw]
  rw[aC (by omega),zjB]
  generalize iter xD k n=m
  unfold xD
  cases IntKind.u32.wrap (lr IntKind.u32 m 1)==1<;>rfl
theorem zBG{b:List Int}(hb:b.length<=1000000000):Kq b=some (crc b,()):=by
 have hl:UU ((4294967295:Int),b,(b.length:Int),(0:Int),())=some (.inl (b.foldl CA 4294967295,())):=by
  unfold UU
  have h0:(((4294967295:Int),b,(b.length:Int),(0:Int),()):Int×(List Int)×Int×Int×Unit)=(fun k:Nat=>((b.take k).foldl CA 4294967295,b,(b.length:Int),(k:Int),())) 0:=by simp
  rw[h0,jL (n:=b.length) (fun k:Nat=>((b.take k).foldl CA 4294967295,b,(b.length:Int),(k:Int),())) (Nat.zero_le _) fun k _ hk=>?_]
  ·refine dm ?_
   show Kp ((b.take b.length).foldl CA 4294967295) b (b.length:Int) (b.length:Int)=_
   unfold Kp
   rw[decide_eq_false (by omega),bn,List.take_length]
  ·show Kp ((b.take k).foldl CA 4294967295) b (b.length:Int) (k:Int)=some (.inl ((b.take (k+1)).foldl CA 4294967295,b,(b.length:Int),((k+1:Nat):Int),()))
   have hg:b.getD k 0=b[k]:=by rw[List.getD_eq_getElem?_getD,List.getElem?_eq_getElem hk];rfl
   have hw:IntKind.i64.wrap ((k:Int)+1)=((k+1:Nat):Int):=by rw[bA (by omega) (by omega)];omega
   unfold Kp
   rw[decide_eq_true (by omega),bz,aC ⟨by omega,by omega⟩]
   simp only[aW,Int.toNat_natCast,hg,zBF,au,dV,hw]
   rw[List.take_succ_eq_append_getElem hk,List.foldl_append]
   rfl
 unfold Kq
 rw[hl,au,dV]
 rfl
theorem zBH(n:Int):layB n 2=be n 2:=by
 simp only[layB,be,show List.range 2=[0,1] from rfl,List.map_cons,List.map_nil,od]
 rw[Int.fdiv_eq_ediv_of_nonneg _ (by omega),Int.fdiv_eq_ediv_of_nonneg _ (by omega)]
theorem zBI(n:Int):layB n 4=be n 4:=by
 simp only[layB,be,show List.range 4=[0,1,2,3] from rfl,List.map_cons,List.map_nil,od]
 rw[Int.fdiv_eq_ediv_of_nonneg _ (by omega),Int.fdiv_eq_ediv_of_nonneg _ (by omega),Int.fdiv_eq_ediv_of_nonneg _ (by omega),Int.fdiv_eq_ediv_of_nonneg _ (by omega)]
def jy(kind n:Int)(b:List Int):List Int:=be b.length 2++be n 4++be (IntKind.i64.wrap (crc b)) 4++[IntKind.u8.wrap kind,197]++List.replicate 52 0
theorem zjD(kind n:Int)(b:List Int):qz (jy kind n b):=by
 refine⟨by simp[jy,cU],fun c hc=>?_⟩
 simp only[jy,List.mem_append,List.mem_cons,List.not_mem_nil,or_false] at hc
 rcases hc with (((hc | hc) | hc) | hc | hc) | hc
 ·exact iK _ _ c hc
 ·exact iK _ _ c hc
 ·exact iK _ _ c hc
 ·subst hc;rw[od];exact⟨by omega,by omega⟩
 ·subst hc;exact⟨by omega,by omega⟩
 ·rw[List.eq_of_mem_replicate hc];exact vK
theorem zjE(kind n:Int){b:List Int}(hb:b.length<=1000000000):Fv kind n b=some (jy kind n b,()):=by
 unfold Fv
 simp only[zBG hb,au,aW,zBH,zBI,List.set_cons_zero,List.getD_cons_zero,List.length_cons,List.length_nil]
 rw[aC (by omega),aC (by omega),au,aC (by omega),aC (by omega),au,aC (by omega),aC (by omega),au]
 repeat rw[aC (by omega)]
 simp only[be,bH,jy]
 simp[List.replicate]
structure Lg where
 dk:Dk
 rg:Int
 tn:Int
 nx:Int
 rc:List (List Int)
 br:Bool
def Lg.out(e:Int)(l:Lg):Int×Int×Int×Int×Bool×Int×Int×Bool×Int×(List (List Int))×(List (List Int))×(List (Int×List Int))×Unit:=
 (e,l.rg,l.tn,l.nx,l.br,l.dk.left,l.dk.fail,l.dk.down,l.dk.calls,l.dk.kept,l.rc,l.dk.wait,())
def Lg.set(l:Lg)(d:Dk):Lg:={ l with dk:=d }
def Dk.half(d:Dk):Int:=(d.kept.length:Int) / 2
theorem zI(k:List (List Int))(hk:k.length<=512)(w:List (Int×List Int))(lf fl:Int)(dn:Bool)(c:Int)(x:Int×Int×Int×(List (List Int))×Bool):
  qm ((k,w,lf,fl,dn,c),x)=some ((k.length:Int) / 2,()):=by
 unfold qm OI
 simp only[au,aW]
 rw[aC (by omega),Int.tdiv_eq_ediv_of_nonneg (by omega),bA (by omega) (by omega)]
def iL(h rg at':Int)(m:Nat):List fO:=(List.range m).map fun k:Nat=>.w (rg*h+(at'+(k:Int))) zS
def i6(h rg at':Int):List fO:=iL h rg at' (h-at').toNat++[.f]
theorem zjF(h rg at':Int)(m:Nat):iL h rg at' (m+1)=.w (rg*h+at') zS::iL h rg (at'+1) m:=by
 unfold iL
 rw[List.range_succ_eq_map,List.map_cons,List.map_map]
 congr 1
 ·simp
 ·apply List.map_congr_left
  intro k _
  simp only[Function.comp_apply]
  congr 1
  omega
theorem zjG(h rg at':Int)(m:Nat):∀ o∈iL h rg at' m,o.Ok:=by
 intro o ho
 obtain⟨k,_,rfl⟩:=List.mem_map.1 ho
 exact PG
theorem Ls(h rg at':Int):∀ o∈i6 h rg at',o.Ok:=by
 intro o ho
 rcases List.mem_append.1 ho with ho | ho
 ·exact zjG _ _ _ _ o ho
 ·simp at ho;subst ho;trivial
theorem PJ{a b:Int}(ha:0<=a)(h1:a<=1)(hb:0<=b)(h2:b<=256):0<=a*b/\a*b<=256:=by
 have:a=0\/a=1:=by omega
 rcases this with rfl | rfl<;>omega
theorem zBJ(rg:Int)(iM:0<=rg)(gV:rg<=1)(l1 l2 l3:Int)(l5:Bool)(rc:List (List Int)):∀ (m N:Nat) (k:Int) (d:Dk),d.Ok N->N+m<=1000000000000->0<=k->(m:Int)=d.half-k\/(m=0/\d.half<=k/\k<=1000)->
  Kw (rg,k,l1,l2,l3,l5,d.left,d.fail,d.down,d.calls,d.kept,rc,d.wait,())=
   some (if (runs (iL d.half rg k m) d).1=0 then .inl (l1,l2,l3,l5,(runs (iL d.half rg k m) d).2.left,(runs (iL d.half rg k m) d).2.fail,(runs (iL d.half rg k m) d).2.down,(runs (iL d.half rg k m) d).2.calls,(runs (iL d.half rg k m) d).2.kept,rc,(runs (iL d.half rg k m) d).2.wait,())
    else .inr (Lg.out (runs (iL d.half rg k m) d).1 ⟨(runs (iL d.half rg k m) d).2,l1,l2,l3,rc,l5⟩)):=by
 intro m
 induction m with
 | zero=>
  intro N k d hd hN hk hm
  unfold Kw
  refine (dm (y:=.inl (l1,l2,l3,l5,d.left,d.fail,d.down,d.calls,d.kept,rc,d.wait,())) ?_).trans ?_
  ·show Kv rg k l1 l2 l3 l5 d.left d.fail d.down d.calls d.kept rc d.wait=_
   unfold Kv
   rw[zI _ hd.k1,au,decide_eq_false (by unfold Dk.half at hm;omega),bn]
  ·simp[iL,runs]
 | succ m ih=>
  intro N k d hd hN hk hm
  have hk1:=hd.k1
  have hh:d.half=(d.kept.length:Int) / 2:=rfl
  have Cg:=PJ iM gV (b:=d.half) (by omega) (by omega)
  have hlt:k<d.half:=by omega
  have tM:Kv rg k l1 l2 l3 l5 d.left d.fail d.down d.calls d.kept rc d.wait=if (d.dT (rg*d.half+k) zS).1=0 then
    some (.inl (rg,k+1,l1,l2,l3,l5,(d.dT (rg*d.half+k) zS).2.left,(d.dT (rg*d.half+k) zS).2.fail,(d.dT (rg*d.half+k) zS).2.down,(d.dT (rg*d.half+k) zS).2.calls,(d.dT (rg*d.half+k) zS).2.kept,rc,(d.dT (rg*d.half+k) zS).2.wait,()))
    else some (.inr (.inr (Lg.out (d.dT (rg*d.half+k) zS).1 ⟨(d.dT (rg*d.half+k) zS).2,l1,l2,l3,rc,l5⟩))):=by
   unfold Kv
   simp only[zI _ hd.k1,au,aW,<-hh]
   rw[decide_eq_true hlt,bz,bA (n:=rg*d.half) (by omega) (by omega),bA (n:=rg*d.half+k) (by omega) (by omega),bA (n:=k+1) (by omega) (by omega),WM hd (by omega),au]
   by_cases he:(d.dT (rg*d.half+k) zS).1=0
   ·simp only[he,if_true,bne_self_eq_false,bn]
   ·have:((d.dT (rg*d.half+k) zS).1 != 0)=true:=by simpa using he
    simp only[this,bz,if_neg he]
    rfl
  have dE:runs (iL d.half rg k (m+1)) d=if (d.dT (rg*d.half+k) zS).1=0 then runs (iL d.half rg (k+1) m) (d.dT (rg*d.half+k) zS).2 else d.dT (rg*d.half+k) zS:=by
   rw[zjF,uy];rfl
  unfold Kw
  by_cases he:(d.dT (rg*d.half+k) zS).1=0
  ·rw[if_pos he] at tM dE
   have WO:(d.dT (rg*d.half+k) zS).2.Ok (N+1):=hd.run (.w (rg*d.half+k) zS) PG
   have hkl:(d.dT (rg*d.half+k) zS).2.half=d.half:=by
    unfold Dk.half
    have:(d.dT (rg*d.half+k) zS).2.kept.length=d.kept.length:=PI d (.w (rg*d.half+k) zS)
    unfold Dk.half at this
    rw[this]
   have:=ih (N+1) (k+1) (d.dT (rg*d.half+k) zS).2 WO (by omega) (by omega) (by rw[hkl];omega)
   unfold Kw at this
   rw[hkl] at this
   rw[dE,<-this]
   exact iI tM
  ·rw[if_neg he] at tM dE
   rw[dE,if_neg he]
   exact dm tM
theorem zjH{l:Lg}{N:Nat}(hd:l.dk.Ok N)(hN:N<=100000000000){rg at':Int}(iM:0<=rg)(gV:rg<=1)(ha:0<=at')(ha1:at'<=1000):
  BZ rg at' l.rg l.tn l.nx l.br l.dk.left l.dk.fail l.dk.down l.dk.calls l.dk.kept l.dk.wait l.rc=
   some (Lg.out (runs (i6 l.dk.half rg at') l.dk).1 (l.set (runs (i6 l.dk.half rg at') l.dk).2)):=by
 unfold BZ
 have hk1:=hd.k1
 have j7:l.dk.half=(l.dk.kept.length:Int) / 2:=rfl
 rw[zBJ rg iM gV l.rg l.tn l.nx l.br l.rc (l.dk.half-at').toNat N at' l.dk hd (by omega) ha (by omega),au]
 have dE:runs (i6 l.dk.half rg at') l.dk=_:=Lr (iL l.dk.half rg at' (l.dk.half-at').toNat) [.f] l.dk
 have cR:=hd.runs (iL l.dk.half rg at' (l.dk.half-at').toNat) (zjG _ _ _ _)
 have hlen:(iL l.dk.half rg at' (l.dk.half-at').toNat).length<=1000:=by simp[iL];omega
 by_cases he:(runs (iL l.dk.half rg at' (l.dk.half-at').toNat) l.dk).1=0
 ·rw[if_pos he,dV]
  rw[if_pos he] at dE
  simp only
  rw[WN cR (by omega),au,dE,uy]
  have:(fO.run (runs (iL l.dk.half rg at' (l.dk.half-at').toNat) l.dk).2 .f)=(runs (iL l.dk.half rg at' (l.dk.half-at').toNat) l.dk).2.ix:=rfl
  rw[this]
  by_cases h2:(runs (iL l.dk.half rg at' (l.dk.half-at').toNat) l.dk).2.ix.1=0
  ·rw[if_pos h2]
   simp only[h2,runs]
   rfl
  ·rw[if_neg h2]
   rfl
 ·rw[if_neg he,Br]
  rw[if_neg he] at dE
  rw[dE]
  rfl
def gQ(b:List Int)(k:Nat):List Int:=bH 0 64 (b.drop (64*k)) zS
theorem zjJ{b:List Int}(hb:bN b)(k:Nat):qz (gQ b k):=by
 unfold gQ bH
 refine⟨by simp;omega,fun c hc=>?_⟩
 simp only[List.take_zero,List.nil_append,List.mem_append] at hc
 rcases hc with hc | hc
 ·exact hb c (List.mem_of_mem_drop (List.mem_of_mem_take hc))
 ·rw[List.eq_of_mem_replicate (List.mem_of_mem_drop hc)];exact vK
def i7(fr:Int)(b:List Int)(k m:Nat):List fO:=(List.range m).map fun j:Nat=>.w (fr+1+((k+j:Nat):Int)) (gQ b (k+j))
def ij(fr kind id:Int)(b:List Int):List fO:=i7 fr b 0 ((b.length+63) / 64)++[.f,.w fr (jy kind id b),.f]
theorem zjK(fr:Int)(b:List Int)(k m:Nat):i7 fr b k (m+1)=.w (fr+1+(k:Int)) (gQ b k)::i7 fr b (k+1) m:=by
 unfold i7
 rw[List.range_succ_eq_map,List.map_cons,List.map_map]
 congr 1
 apply List.map_congr_left
 intro j _
 simp only[Function.comp_apply]
 rw[show k+Nat.succ j=k+1+j by omega]
theorem zjL{b:List Int}(hb:bN b)(fr:Int)(k m:Nat):∀ o∈i7 fr b k m,o.Ok:=by
 intro o ho
 obtain⟨j,_,rfl⟩:=List.mem_map.1 ho
 exact zjJ hb _
theorem Lt{b:List Int}(hb:bN b)(fr kind id:Int):∀ o∈ij fr kind id b,o.Ok:=by
 intro o ho
 rcases List.mem_append.1 ho with ho | ho
 ·exact zjL hb _ _ _ o ho
 ·simp at ho
  rcases ho with rfl | rfl | rfl
  ·trivial
  ·exact zjD _ _ _
  ·trivial
theorem zBK(kind id:Int)(b:List Int)(hb:bN b)(gL:b.length<=16384)(fr:Int)(hf0:0<=fr)(WQ:fr<=10000)(l1 l2 l3:Int)(l5:Bool)(rc:List (List Int)):∀ (m N k:Nat) (d:Dk),d.Ok N->N+m<=1000000000000->k+m=(b.length+63) / 64->
  Ky (kind,id,b,fr,((k+1:Nat):Int),l1,l2,l3,l5,d.left,d.fail,d.down,d.calls,d.kept,rc,d.wait,())=
   some (if (runs (i7 fr b k m) d).1=0 then .inl (kind,id,b,fr,l1,l2,l3,l5,(runs (i7 fr b k m) d).2.left,(runs (i7 fr b k m) d).2.fail,(runs (i7 fr b k m) d).2.down,(runs (i7 fr b k m) d).2.calls,(runs (i7 fr b k m) d).2.kept,rc,(runs (i7 fr b k m) d).2.wait,())
    else .inr (Lg.out (runs (i7 fr b k m) d).1 ⟨(runs (i7 fr b k m) d).2,l1,l2,l3,rc,l5⟩)):=by
 intro m
 induction m with
 | zero=>
  intro N k d hd hN hk
  unfold Ky
  refine (dm (y:=.inl (kind,id,b,fr,l1,l2,l3,l5,d.left,d.fail,d.down,d.calls,d.kept,rc,d.wait,())) ?_).trans ?_
  ·show Kx kind id b fr ((k+1:Nat):Int) l1 l2 l3 l5 d.left d.fail d.down d.calls d.kept rc d.wait=_
   unfold Kx
   rw[zH (by omega) (by omega),au,decide_eq_false (by unfold sec;omega),bn]
  ·simp[i7,runs]
 | succ m ih=>
  intro N k d hd hN hk
  have hlt:((k+1:Nat):Int)<sec b.length:=by unfold sec;omega
  have hcp:bH 0 64 (cE (64*k) b.length b) zS=gQ b k:=by
   unfold gQ cE
   rw[List.take_of_length_le (by simp)]
  have tM:Kx kind id b fr ((k+1:Nat):Int) l1 l2 l3 l5 d.left d.fail d.down d.calls d.kept rc d.wait=if (d.dT (fr+1+(k:Int)) (gQ b k)).1=0 then
    some (.inl (kind,id,b,fr,((k+1+1:Nat):Int),l1,l2,l3,l5,(d.dT (fr+1+(k:Int)) (gQ b k)).2.left,(d.dT (fr+1+(k:Int)) (gQ b k)).2.fail,(d.dT (fr+1+(k:Int)) (gQ b k)).2.down,(d.dT (fr+1+(k:Int)) (gQ b k)).2.calls,(d.dT (fr+1+(k:Int)) (gQ b k)).2.kept,rc,(d.dT (fr+1+(k:Int)) (gQ b k)).2.wait,()))
    else some (.inr (.inr (Lg.out (d.dT (fr+1+(k:Int)) (gQ b k)).1 ⟨(d.dT (fr+1+(k:Int)) (gQ b k)).2,l1,l2,l3,rc,l5⟩))):=by
   unfold Kx
   simp only[zH (n:=(b.length:Int)) (by omega) (by omega),au,aW,List.set_cons_zero,List.getD_cons_zero,List.length_singleton]
   rw[decide_eq_true hlt,bz,aC (by omega),bA (n:=((k+1:Nat):Int)-1) (by omega) (by omega),bA (n:=(((k+1:Nat):Int)-1)*64) (by omega) (by omega),bA (n:=fr+((k+1:Nat):Int)) (by omega) (by omega),bA (n:=((k+1:Nat):Int)+1) (by omega) (by omega),aC (by omega),aC (by omega),aC (by omega)]
   rw[show ((((k+1:Nat):Int)-1)*64).toNat=64*k by omega,Int.toNat_natCast,hcp,show fr+((k+1:Nat):Int)=fr+1+(k:Int) by omega,show ((k+1:Nat):Int)+1=((k+1+1:Nat):Int) by omega,WM hd (by omega),au]
   by_cases he:(d.dT (fr+1+(k:Int)) (gQ b k)).1=0
   ·simp only[he,if_true,bne_self_eq_false,bn]
   ·have:((d.dT (fr+1+(k:Int)) (gQ b k)).1 != 0)=true:=by simpa using he
    simp only[this,bz,if_neg he]
    rfl
  have dE:runs (i7 fr b k (m+1)) d=if (d.dT (fr+1+(k:Int)) (gQ b k)).1=0 then runs (i7 fr b (k+1) m) (d.dT (fr+1+(k:Int)) (gQ b k)).2 else d.dT (fr+1+(k:Int)) (gQ b k):=by
   rw[zjK,uy];rfl
  unfold Ky
  by_cases he:(d.dT (fr+1+(k:Int)) (gQ b k)).1=0
  ·rw[if_pos he] at tM dE
   have WO:(d.dT (fr+1+(k:Int)) (gQ b k)).2.Ok (N+1):=hd.run (.w (fr+1+(k:Int)) (gQ b k)) (zjJ hb k)
   have:=ih (N+1) (k+1) (d.dT (fr+1+(k:Int)) (gQ b k)).2 WO (by omega) (by omega)
   unfold Ky at this
   rw[dE,<-this]
   exact iI tM
  ·rw[if_neg he] at tM dE
   rw[dE,if_neg he]
   exact dm tM
theorem rS{a:Int}(h:a≠0):(a != 0)=true:=by simpa using h
theorem WR{l:Lg}{N:Nat}(hd:l.dk.Ok N)(hN:N<=100000000000){rg at':Int}(iM:0<=rg)(gV:rg<=1)(ha:0<=at')(ha1:at'<=1000)(kind id:Int){b:List Int}(hb:bN b)(gL:b.length<=16384):
  B0 rg at' kind id b l.rg l.tn l.nx l.br l.dk.left l.dk.fail l.dk.down l.dk.calls l.dk.kept l.dk.wait l.rc=
   some (Lg.out (runs (ij (rg*l.dk.half+at') kind id b) l.dk).1 (l.set (runs (ij (rg*l.dk.half+at') kind id b) l.dk).2)):=by
 have hk1:=hd.k1
 have j7:l.dk.half=(l.dk.kept.length:Int) / 2:=rfl
 have Cg:=PJ iM gV (b:=l.dk.half) (by omega) (by omega)
 unfold B0
 simp only[zI _ hd.k1,au,aW,<-j7]
 rw[bA (n:=rg*l.dk.half) (by omega) (by omega),bA (n:=rg*l.dk.half+at') (by omega) (by omega)]
 generalize YD:rg*l.dk.half+at'=fr
 rw[show (1:Int)=((0+1:Nat):Int) by omega,zBK kind id b hb gL fr (by omega) (by omega) l.rg l.tn l.nx l.br l.rc ((b.length+63) / 64) N 0 l.dk hd (by omega) (by omega),au]
 have dE:runs (ij fr kind id b) l.dk=_:=Lr (i7 fr b 0 ((b.length+63) / 64)) [.f,.w fr (jy kind id b),.f] l.dk
 have cR:=hd.runs (i7 fr b 0 ((b.length+63) / 64)) (zjL hb _ _ _)
 have hlen:(i7 fr b 0 ((b.length+63) / 64)).length<=1000:=by simp[i7];omega
 generalize runs (i7 fr b 0 ((b.length+63) / 64)) l.dk=r at*
 by_cases he:r.1=0
 ·rw[if_pos he,dV]
  rw[if_pos he,uy] at dE
  simp only
  rw[WN cR (by omega),au]
  have e1:fO.run r.2 .f=r.2.ix:=rfl
  rw[e1] at dE
  have Lu:r.2.ix.2.Ok _:=cR.run .f trivial
  generalize r.2.ix=r1 at*
  by_cases h1:r1.1=0
  ·rw[if_pos h1,uy] at dE
   simp only[h1,bne_self_eq_false,bn,zjE kind id (b:=b) (by omega),au]
   rw[WM Lu (by omega),au]
   have e2:fO.run r1.2 (.w fr (jy kind id b))=r1.2.dT fr (jy kind id b):=rfl
   rw[e2] at dE
   have WS:(r1.2.dT fr (jy kind id b)).2.Ok _:=Lu.run (.w fr (jy kind id b)) (zjD _ _ _)
   generalize r1.2.dT fr (jy kind id b)=r2 at*
   by_cases h2:r2.1=0
   ·rw[if_pos h2,uy] at dE
    simp only[h2,bne_self_eq_false,bn]
    rw[WN WS (by omega),au,dE]
    have e3:fO.run r2.2 .f=r2.2.ix:=rfl
    rw[e3]
    by_cases h3:r2.2.ix.1=0
    ·rw[if_pos h3]
     simp only[h3,runs]
     rfl
    ·rw[if_neg h3]
     rfl
   ·rw[if_neg h2] at dE
    simp only[rS h2,bz,dE]
    rfl
  ·rw[if_neg h1] at dE
   simp only[rS h1,bz,dE]
   rfl
 ·rw[if_neg he,Br]
  rw[if_neg he] at dE
  rw[dE]
  rfl
theorem PK(e rg tn nx:Int)(d:Dk)(rc:List (List Int)):zh e rg tn nx false d.left d.fail d.down d.calls d.kept d.wait rc=some (e,rg,tn,nx,e != 0,d.left,d.fail,d.down,d.calls,d.kept,d.wait,rc,()):=by
 unfold zh
 simp only[cc,aW,Bool.false_or]
 rw[aC (by simp)]
structure Lg.Ok(l:Lg)(N:Nat):Prop where
 dk:l.dk.Ok N
 r0:0<=l.rg
 r1:l.rg<=1
 n0:0<=l.nx
 n1:l.nx<=1000
 t0:0<=l.tn
 t1:l.tn<=N
 rl:(l.rc.length:Int)<=l.nx
 rb:∀ b∈l.rc,bN b/\b.length<=16384
def Lg.kx(l:Lg)(b:List Int):Int×Dk:=runs (ij (l.rg*l.dk.half+l.nx) 2 l.rc.length b) l.dk
def Lg.app(l:Lg)(b:List Int):Int×Lg:=
 if l.br=true then (11,l) else if (b.length:Int)>16384 then (12,l) else if sec b.length>l.dk.half-l.nx then (4,l) else
 if (l.kx b).1=0 then (0,{ l with dk:=(l.kx b).2,nx:=l.nx+sec b.length,rc:=l.rc++[b] }) else ((l.kx b).1,{ l with dk:=(l.kx b).2,br:=true })
theorem WT{l:Lg}{N:Nat}(h:l.Ok N)(hN:N<=10000000000){b:List Int}(hb:bN b)(gL:b.length<=1000000000):
  B5 b l.rg l.tn l.nx l.br l.dk.left l.dk.fail l.dk.down l.dk.calls l.dk.kept l.dk.wait l.rc=some (Lg.out (l.app b).1 (l.app b).2):=by
 obtain⟨d,rg,tn,nx,rc,br⟩:=l
 obtain⟨hd,iM,gV,jq,jd,zJ,Lv,uz,PL⟩:=h
 simp only at hd iM gV jq jd zJ Lv uz
 have hk1:=hd.k1
 have j7:d.half=(d.kept.length:Int) / 2:=rfl
 unfold B5 Lg.app
 cases br
 ·simp only[bn,Bool.false_eq_true,if_false]
  by_cases pd:(b.length:Int)>16384
  ·rw[decide_eq_true pd,bz,if_pos pd];rfl
  ·rw[decide_eq_false pd,bn,if_neg pd,zH (by omega) (by omega),au]
   have AK:KB ((d.kept,d.wait,d.left,d.fail,d.down,d.calls),rg,tn,nx,rc,false)=some (d.half-nx,()):=by
    unfold KB
    rw[zI _ hk1,au,aW]
    show some (IntKind.i64.wrap (_-nx),())=_
    rw[bA (by omega) (by omega),j7]
   rw[AK,au]
   by_cases uA:sec b.length>d.half-nx
   ·simp only[decide_eq_true uA,bz,if_pos uA];rfl
   ·have xF:0<=sec b.length:=by unfold sec;omega
    simp only[decide_eq_false uA,bn,if_neg uA]
    have:=WR (l:=⟨d,rg,tn,nx,rc,false⟩) hd (by omega) iM gV jq (by omega) 2 (rc.length:Int) hb (by omega)
    simp only at this
    rw[this,au]
    have hr:runs (ij (rg*d.half+nx) 2 rc.length b) d=Lg.kx ⟨d,rg,tn,nx,rc,false⟩ b:=rfl
    rw[hr]
    generalize Lg.kx ⟨d,rg,tn,nx,rc,false⟩ b=r
    by_cases he:r.1=0
    ·simp only[Lg.out,Lg.set,he,bne_self_eq_false,bn,au,aW,if_true]
     rw[aC (by simp only[kj];omega),aC (by show (rc.length+1)*24<=_;omega),bA (by omega) (by omega)]
    ·have na:=rS he
     simp only[Lg.out,Lg.set,na,bz,aW,if_neg he,PK,au]
 ·simp only[bz,if_true];rfl
def Lg.oK(l:Lg)(b:List Int):List fO:=i6 l.dk.half (1-l.rg) 0++(ij ((1-l.rg)*l.dk.half+1) 2 0 b++ij ((1-l.rg)*l.dk.half+0) 1 (l.tn+1) [])
def Lg.ky(l:Lg)(b:List Int):Int×Dk:=runs (l.oK b) l.dk
def Lg.dM(l:Lg)(b:List Int):Int×Lg:=
 if l.br=true then (11,l) else if (b.length:Int)>16384 then (12,l) else if 1+sec b.length>l.dk.half then (4,l) else
 if (l.ky b).1=0 then (0,⟨(l.ky b).2,1-l.rg,l.tn+1,1+sec b.length,[b],l.br⟩) else ((l.ky b).1,{ l with dk:=(l.ky b).2,br:=true })
theorem zjM(os:List fO)(d:Dk):(runs os d).2.half=d.half:=by
 unfold Dk.half;rw[Cz]
theorem CB:bN []:=fun c hc=>by simp at hc
theorem Gk(h rg a:Int)(h1:h-a<=1000):(i6 h rg a).length<=1001:=by simp[i6,iL];omega
theorem CC(fr kind id:Int)(b:List Int)(h:b.length<=16384):(ij fr kind id b).length<=1000:=by simp[ij,i7];omega
theorem WU{l:Lg}{N:Nat}(h:l.Ok N)(hN:N<=10000000000){b:List Int}(hb:bN b)(gL:b.length<=1000000000):
  zi b l.rg l.tn l.nx l.br l.dk.left l.dk.fail l.dk.down l.dk.calls l.dk.kept l.dk.wait l.rc=some (Lg.out (l.dM b).1 (l.dM b).2):=by
 obtain⟨d,rg,tn,nx,rc,br⟩:=l
 obtain⟨hd,iM,gV,jq,jd,zJ,Lv,uz,PL⟩:=h
 simp only at hd iM gV jq jd zJ Lv uz
 have hk1:=hd.k1
 have j7:d.half=(d.kept.length:Int) / 2:=rfl
 unfold zi Lg.dM
 cases br
 ·simp only[bn,Bool.false_eq_true,if_false]
  by_cases pd:(b.length:Int)>16384
  ·rw[decide_eq_true pd,bz,if_pos pd];rfl
  ·rw[decide_eq_false pd,bn,if_neg pd,zH (by omega) (by omega),au]
   have xF:0<=sec b.length:=by unfold sec;omega
   have zGC:sec b.length<=1000:=by unfold sec;omega
   simp only[aW,zI _ hk1,au,<-j7]
   rw[bA (n:=1+sec b.length) (by omega) (by omega)]
   by_cases uA:1+sec b.length>d.half
   ·simp only[decide_eq_true uA,bz,if_pos uA];rfl
   ·simp only[decide_eq_false uA,bn,if_neg uA]
    rw[bA (n:=1-rg) (by omega) (by omega)]
    have dE:Lg.ky ⟨d,rg,tn,nx,rc,false⟩ b=_:=Lr (i6 d.half (1-rg) 0) _ d
    generalize VI:1-rg=ot at dE ⊢
    have c1:=zjH (l:=⟨d,rg,tn,nx,rc,false⟩) (rg:=ot) (at':=0) hd (by omega) (by omega) (by omega) (by omega) (by omega)
    simp only at c1
    rw[c1,au]
    have Lu:=hd.runs (i6 d.half ot 0) (Ls _ _ _)
    have hl1:=Gk d.half ot 0 (by omega)
    have WQ:=zjM (i6 d.half ot 0) d
    generalize runs (i6 d.half ot 0) d=r at*
    by_cases he:r.1=0
    ·rw[if_pos he,Lr] at dE
     simp only[Lg.out,Lg.set,he,bne_self_eq_false,bn]
     have c2:=WR (l:=⟨r.2,rg,tn,nx,rc,false⟩) (rg:=ot) (at':=1) Lu (by omega) (by omega) (by omega) (by omega) (by omega) 2 0 hb (by omega)
     simp only[WQ] at c2
     rw[c2,au]
     have WS:=Lu.runs (ij (ot*d.half+1) 2 0 b) (Lt hb _ _ _)
     have Ea:=CC (ot*d.half+1) 2 0 b (by omega)
     have CD:=zjM (ij (ot*d.half+1) 2 0 b) r.2
     simp only[Lg.out,Lg.set]
     generalize runs (ij (ot*d.half+1) 2 0 b) r.2=r2 at*
     by_cases zK:r2.1=0
     ·rw[if_pos zK] at dE
      simp only[zK,bne_self_eq_false,bn]
      rw[bA (n:=tn+1) (by omega) (by omega)]
      have c3:=WR (l:=⟨r2.2,rg,tn,nx,rc,false⟩) (rg:=ot) (at':=0) WS (by omega) (by omega) (by omega) (by omega) (by omega) 1 (tn+1) CB (by simp)
      simp only[CD,WQ] at c3
      simp only at dE
      rw[c3,au,<-dE]
      simp only[Lg.out,Lg.set]
      generalize Lg.ky ⟨d,rg,tn,nx,rc,false⟩ b=r3
      by_cases WV:r3.1=0
      ·simp only[WV,bne_self_eq_false,bn,if_true,au]
       rw[aC (by simp only[kj];omega),bA (n:=tn+1) (by omega) (by omega)]
      ·have na:=rS WV
       simp only[na,bz,if_neg WV,PK,au]
     ·rw[if_neg zK] at dE
      have na:=rS zK
      simp only[na,bz,dE,if_neg zK,PK,au]
    ·rw[if_neg he] at dE
     have na:=rS he
     simp only[Lg.out,Lg.set,na,bz,dE,if_neg he,PK,au]
 ·simp only[bz,if_true];rfl
end Go.Tr
