/- The walks of two functions whose entries are made by hand: a number laid into bytes, and a struct's part that is handed out.
  Conditions: none. -/
import Derived.Test.YtploofmfghjijaaGreatMacD
import Derived.WalkKit
import Derived.Sort.Grow
import Derived.Test.YtploofmfghjijaaGreatProg
namespace Go.Tr
open Go Go.Proofs Go.RowKit Go.Lib
set_option maxRecDepth 100000
set_option maxHeartbeats 2000000
set_option linter.unusedVariables false
theorem setCells_app(b:Nat):∀ (vs us:List Value) (o:Nat) (w:World),w.setCells b o (vs++us)=(w.setCells b o vs).setCells b (o+vs.length) us
 | [],us,o,w=>by simp[World.setCells]
 | v::vs,us,o,w=>by
  simp only[List.cons_append,World.setCells,List.length_cons]
  rw[setCells_app b vs us (o+1) _,show o+1+vs.length=o+(vs.length+1) by omega]
theorem layB_get(n:Int){len k:Nat}(h:k<len):(layB n len)[k]'(by rw[layB_len];exact h)=IntKind.u8.wrap (n.fdiv (2 ^ (8*(len-1-k)))):=by simp[layB]
theorem lay_step(b o len k:Nat)(n:Int)(w:World)(h:k<len):w.setCells b o (((layB n len).take (k+1)).map (Value.int .u8))=(w.setCells b o (((layB n len).take k).map (Value.int .u8))).setCell ⟨b,o+k,none⟩ (.int .u8 (IntKind.u8.wrap (n.fdiv (2 ^ (8*(len-1-k)))))):=by
 rw[List.take_succ_eq_append_getElem (by rw[layB_len];exact h),List.map_append,setCells_app]
 have:(((layB n len).take k).map (Value.int .u8)).length=k:=by simp[layB_len];omega
 rw[this]
 simp[World.setCells,layB_get n h]
theorem walk_lay(b o len cap:Nat)(n:Int)(w:World)(hlen:len<=8)(hcap:len<=cap)(hc:∀ j,j<len->(w.cell? ⟨b,o+j,none⟩).isSome=true/\w.frozen? ⟨b,o+j,none⟩=false):
  Calls Tryz.prog 145 #[.slice (some ⟨b,o,none⟩) len cap,.int .i64 n] w fun e w'=>e=.returned (.tuple #[])/\w'=w.setCells b o ((layB n len).map (Value.int .u8)):=by
 go_enter Tryz.func145,Tryz.ntmps145
 go_wp2
 go_loopw [7] (fun i wr=>∃ k:Nat,k<=len/\i=.int .i64 k/\wr=w.setCells b o (((layB n len).take k).map (Value.int .u8))) (fun i _=>len-(RowKit.intOf i).toNat)
 case atStart=>exact⟨0,Nat.zero_le _,rfl,rfl⟩
 case round=>
  obtain⟨k,hk,rfl,hwr⟩:=hrel
  by_cases hlt:k<len
  ·have hst:=lay_step b o len k n w hlt
   have hq:IntKind.u8.wrap (n.fdiv (2 ^ (8*(len-1-k))))=n / 2 ^ (8*(len-1-k)) % 256:=by
    rw[IntKind.wrap_u8,Int.fdiv_eq_ediv_of_nonneg _ (Int.pow_nonneg (by omega))]
   rw[hq] at hst
   obtain⟨W,hW⟩:∃ W,W=w.setCells b o (((layB n len).take k).map (Value.int .u8)):=⟨_,rfl⟩
   have hin:(W.cell? ⟨b,o+k,none⟩).isSome=true/\W.frozen? ⟨b,o+k,none⟩=false:=by
    rw[hW,World.cell?_setCells_out b _ o w ⟨b,o+k,none⟩ (fun _ _=>.inr (by simp[layB_len];omega)),World.frozen?_setCells]
    exact hc k hlt
   rw[<-hW] at hwr hst
   obtain⟨v,hv⟩:=Option.isSome_iff_exists.1 hin.1
   have hfz:=hin.2
   have hst':Hid (w.setCells b o (((layB n len).take (k+1)).map (Value.int .u8))=W.setCell ⟨b,o+k,none⟩ (.int .u8 (n / 2 ^ (8*(len-1-k)) % 256))):=hst
   clear hst hin hc hq hW
   subst hwr
   go_wp2
   all_goals first
    | (exfalso;omega)
    | (refine⟨⟨k+1,by omega,by simp,hst'.symm⟩,by simp[RowKit.intOf];omega⟩)
    | trace_state
  ·have hkl:k=len:=by omega
   subst hkl
   have hwr':Hid (wr=w.setCells b o ((layB n k).map (Value.int .u8))):=by
    rw[hwr,List.take_of_length_le (by rw[layB_len];exact Nat.le_refl _)]
    exact rfl
   clear hc hwr
   go_wp2
   first
    | (go_end0;exact⟨rfl,hwr'⟩)
    | (go_ret;exact⟨rfl,hwr'⟩)
    | trace_state
theorem h_wal_lay[Tabs Tryz.prog]:(H_lay 145).OK Tryz.prog:=H_lay_ok ⟨_,rfl,by rfl,by rfl⟩ (fun b o len cap n w h1 h2 h3=>walk_lay b o len cap n w h1 h2 h3)
theorem cell_alloc(w:World)(o:Obj){b k:Nat}{cs:Array Value}{T:TypeId}{fr:Nat×Nat}(h:w.heap[b]? =some (.cells cs T fr)){v:Value}(hv:cs[k]? =some v):(w.alloc o).cell? ⟨b,k,none⟩=some v:=by
 have hb:b<w.heap.size:=by
  rcases Nat.lt_or_ge b w.heap.size with hlt | hge
  ·exact hlt
  ·rw[Array.getElem?_eq_none hge] at h;simp at h
 have:(w.alloc o).heap[b]? =some (.cells cs T fr):=by
  show (w.heap.push o)[b]? =_
  rw[Array.getElem?_push,if_neg (by omega)];exact h
 simp[World.cell?,this,hv]
theorem store_row{P:Program}(w:World){b j:Nat}{cs:Array Value}{T:TypeId}{fr:Nat×Nat}{v:Value}(h:w.heap[b]? =some (.cells cs T fr))(hj:j<cs.size)(hf:fr=(0,0))(hv:v.oneCell'=true):
  (store ⟨b,j,none⟩ v).run P w=.ok () (w.setRow b (cs.setIfInBounds j v)):=by
 subst hf
 have hcell:w.cell? ⟨b,j,none⟩=some cs[j]:=by simp[World.cell?,h,hj]
 have hfro:w.frozen? ⟨b,j,none⟩=false:=by simp[World.frozen?,h]
 rw[run_store P w _ v _ hv,hcell]
 simp[hfro,setCell_eq_setRow w b j cs T (0,0) v h]
def KeptO(w W:World):Prop:=(∀ c,c<w.heap.size->W.heap[c]? =w.heap[c]?)/\w.heap.size<=W.heap.size/\W.os=w.os/\W.tape=w.tape/\W.output=w.output
theorem KeptO.row{w W:World}(h:KeptO w W)(cs:Array Value):KeptO w (W.setRow w.heap.size cs):=
 ⟨fun c hc=>(setRow_other _ _ _ _ (by omega)).trans (h.1 c hc),by rw[setRow_size];exact h.2.1,h.2.2.1,h.2.2.2.1,h.2.2.2.2⟩
theorem KeptO.alloc(w:World)(o:Obj):KeptO w (w.alloc o):=
 ⟨fun c hc=>by show (w.heap.push _)[c]? =_;rw[Array.getElem?_push,if_neg (by omega)],by show _<=(w.heap.push _).size;simp,rfl,rfl,rfl⟩
theorem walk_State(b:Nat)(cs:Array Value)(T:TypeId)(fr:Nat×Nat)(w:World)(h:w.heap[b]? =some (.cells cs T fr))(v0 v1 v2 v3 v4 v5 v6:Value)
  (g0:cs[10]? =some v0) (g1:cs[11]? =some v1) (g2:cs[12]? =some v2) (g3:cs[13]? =some v3) (g4:cs[14]? =some v4) (g5:cs[15]? =some v5) (g6:cs[16]? =some v6)
  (l0:v0.oneCell'=true) (l1:v1.oneCell'=true) (l2:v2.oneCell'=true) (l3:v3.oneCell'=true) (l4:v4.oneCell'=true) (l5:v5.oneCell'=true) (l6:v6.oneCell'=true):
  Calls Tryz.prog 24 #[.pointer (some ⟨b,0,none⟩)] w fun e w'=>e=.returned (.agg #[v0,v1,v2,v3,v4,v5,v6])/\(∀ c,c<w.heap.size->w'.heap[c]? =w.heap[c]?)/\w.heap.size<=w'.heap.size/\w'.os=w.os/\w'.tape=w.tape/\w'.output=w.output:=by
 have hb:Hid (b<w.heap.size):=by
  rcases Nat.lt_or_ge b w.heap.size with hlt | hge
  ·exact hlt
  ·rw[Array.getElem?_eq_none hge] at h;simp at h
 have c0:=fun o=>cell_alloc w o h g0
 have c1:=fun o=>cell_alloc w o h g1
 have c2:=fun o=>cell_alloc w o h g2
 have c3:=fun o=>cell_alloc w o h g3
 have c4:=fun o=>cell_alloc w o h g4
 have c5:=fun o=>cell_alloc w o h g5
 have c6:=fun o=>cell_alloc w o h g6
 clear h g0 g1 g2 g3 g4 g5 g6
 go_enter Tryz.func24,Tryz.ntmps24
 go_wp2
 rename_i K1 hK1 K2 hK2
 obtain⟨W,hW⟩:∃ W:World,W=w.alloc (.cells #[.int .i64 0,.int .i64 0,.slice none 0 0,.slice none 0 0,.slice none 0 0,.slice none 0 0,.slice none 0 0] 51):=⟨_,rfl⟩
 rw[<-hW]
 have hold:Hid (KeptO w W):=hW▸KeptO.alloc w _
 have hh:W.heap[w.heap.size]? =some (.cells #[.int .i64 0,.int .i64 0,.slice none 0 0,.slice none 0 0,.slice none 0 0,.slice none 0 0,.slice none 0 0] 51 (0,0)):=by
  rw[hW];show (w.heap.push _)[w.heap.size]? =_;simp
 rw[store_row W hh (by simp) rfl l0]
 simp only[Result.andThen_ok]
 obtain⟨W0,hW0⟩:∃ W0,W0=W.setRow w.heap.size ((#[.int .i64 0,.int .i64 0,.slice none 0 0,.slice none 0 0,.slice none 0 0,.slice none 0 0,.slice none 0 0]:Array Value).setIfInBounds 0 v0):=⟨_,rfl⟩
 rw[<-hW0]
 replace hold:Hid (KeptO w W0):=hW0▸KeptO.row hold _
 replace hh:W0.heap[w.heap.size]? =some (.cells #[v0,.int .i64 0,.slice none 0 0,.slice none 0 0,.slice none 0 0,.slice none 0 0,.slice none 0 0] 51 (0,0)):=by rw[hW0];exact setRow_heap W w.heap.size _ _ 51 (0,0) hh
 clear hW0
 rw[store_row W0 hh (by simp) rfl l1]
 simp only[Result.andThen_ok]
 obtain⟨W1,hW1⟩:∃ W1,W1=W0.setRow w.heap.size ((#[v0,.int .i64 0,.slice none 0 0,.slice none 0 0,.slice none 0 0,.slice none 0 0,.slice none 0 0]:Array Value).setIfInBounds 1 v1):=⟨_,rfl⟩
 rw[<-hW1]
 replace hold:Hid (KeptO w W1):=hW1▸KeptO.row hold _
 replace hh:W1.heap[w.heap.size]? =some (.cells #[v0,v1,.slice none 0 0,.slice none 0 0,.slice none 0 0,.slice none 0 0,.slice none 0 0] 51 (0,0)):=by rw[hW1];exact setRow_heap W0 w.heap.size _ _ 51 (0,0) hh
 clear hW1
 rw[store_row W1 hh (by simp) rfl l2]
 simp only[Result.andThen_ok]
 obtain⟨W2,hW2⟩:∃ W2,W2=W1.setRow w.heap.size ((#[v0,v1,.slice none 0 0,.slice none 0 0,.slice none 0 0,.slice none 0 0,.slice none 0 0]:Array Value).setIfInBounds 2 v2):=⟨_,rfl⟩
 rw[<-hW2]
 replace hold:Hid (KeptO w W2):=hW2▸KeptO.row hold _
 replace hh:W2.heap[w.heap.size]? =some (.cells #[v0,v1,v2,.slice none 0 0,.slice none 0 0,.slice none 0 0,.slice none 0 0] 51 (0,0)):=by rw[hW2];exact setRow_heap W1 w.heap.size _ _ 51 (0,0) hh
 clear hW2
 rw[store_row W2 hh (by simp) rfl l3]
 simp only[Result.andThen_ok]
 obtain⟨W3,hW3⟩:∃ W3,W3=W2.setRow w.heap.size ((#[v0,v1,v2,.slice none 0 0,.slice none 0 0,.slice none 0 0,.slice none 0 0]:Array Value).setIfInBounds 3 v3):=⟨_,rfl⟩
 rw[<-hW3]
 replace hold:Hid (KeptO w W3):=hW3▸KeptO.row hold _
 replace hh:W3.heap[w.heap.size]? =some (.cells #[v0,v1,v2,v3,.slice none 0 0,.slice none 0 0,.slice none 0 0] 51 (0,0)):=by rw[hW3];exact setRow_heap W2 w.heap.size _ _ 51 (0,0) hh
 clear hW3
 rw[store_row W3 hh (by simp) rfl l4]
 simp only[Result.andThen_ok]
 obtain⟨W4,hW4⟩:∃ W4,W4=W3.setRow w.heap.size ((#[v0,v1,v2,v3,.slice none 0 0,.slice none 0 0,.slice none 0 0]:Array Value).setIfInBounds 4 v4):=⟨_,rfl⟩
 rw[<-hW4]
 replace hold:Hid (KeptO w W4):=hW4▸KeptO.row hold _
 replace hh:W4.heap[w.heap.size]? =some (.cells #[v0,v1,v2,v3,v4,.slice none 0 0,.slice none 0 0] 51 (0,0)):=by rw[hW4];exact setRow_heap W3 w.heap.size _ _ 51 (0,0) hh
 clear hW4
 rw[store_row W4 hh (by simp) rfl l5]
 simp only[Result.andThen_ok]
 obtain⟨W5,hW5⟩:∃ W5,W5=W4.setRow w.heap.size ((#[v0,v1,v2,v3,v4,.slice none 0 0,.slice none 0 0]:Array Value).setIfInBounds 5 v5):=⟨_,rfl⟩
 rw[<-hW5]
 replace hold:Hid (KeptO w W5):=hW5▸KeptO.row hold _
 replace hh:W5.heap[w.heap.size]? =some (.cells #[v0,v1,v2,v3,v4,v5,.slice none 0 0] 51 (0,0)):=by rw[hW5];exact setRow_heap W4 w.heap.size _ _ 51 (0,0) hh
 clear hW5
 rw[store_row W5 hh (by simp) rfl l6]
 simp only[Result.andThen_ok]
 obtain⟨W6,hW6⟩:∃ W6,W6=W5.setRow w.heap.size ((#[v0,v1,v2,v3,v4,v5,.slice none 0 0]:Array Value).setIfInBounds 6 v6):=⟨_,rfl⟩
 rw[<-hW6]
 replace hold:Hid (KeptO w W6):=hW6▸KeptO.row hold _
 replace hh:W6.heap[w.heap.size]? =some (.cells #[v0,v1,v2,v3,v4,v5,v6] 51 (0,0)):=by rw[hW6];exact setRow_heap W5 w.heap.size _ _ 51 (0,0) hh
 clear hW6
 simp only[Oper.upon]
 refine hK2 _ _ (hK1 _ _ ?_)
 have d0:W6.cell? ⟨w.heap.size,0,none⟩=some v0:=by simp[World.cell?,hh]
 have d1:W6.cell? ⟨w.heap.size,1,none⟩=some v1:=by simp[World.cell?,hh]
 have d2:W6.cell? ⟨w.heap.size,2,none⟩=some v2:=by simp[World.cell?,hh]
 have d3:W6.cell? ⟨w.heap.size,3,none⟩=some v3:=by simp[World.cell?,hh]
 have d4:W6.cell? ⟨w.heap.size,4,none⟩=some v4:=by simp[World.cell?,hh]
 have d5:W6.cell? ⟨w.heap.size,5,none⟩=some v5:=by simp[World.cell?,hh]
 have d6:W6.cell? ⟨w.heap.size,6,none⟩=some v6:=by simp[World.cell?,hh]
 clear hK1 hK2
 have hh':Hid (W6.heap[w.heap.size]? =some (.cells #[v0,v1,v2,v3,v4,v5,v6] 51 (0,0))):=hh
 clear hh
 go_wp2
 first
  | exact bodyPost_ret (results_cell_row rfl _ _ w.heap.size 51 #[v0,v1,v2,v3,v4,v5,v6] (0,0) _ (by simp[Act.put]) hh' (by rfl) (by rfl) (by rfl)) rfl ⟨rfl,hold⟩
  | trace_state
theorem list7(cs:Array Value)(h:10+7<=cs.size):∃ v0 v1 v2 v3 v4 v5 v6,cs[10]? =some v0/\cs[11]? =some v1/\cs[12]? =some v2/\cs[13]? =some v3/\cs[14]? =some v4/\cs[15]? =some v5/\cs[16]? =some v6/\((cs.toList.drop 10).take 7).toArray=#[v0,v1,v2,v3,v4,v5,v6]:=by
 refine⟨_,_,_,_,_,_,_,Array.getElem?_eq_getElem (by omega),Array.getElem?_eq_getElem (by omega),Array.getElem?_eq_getElem (by omega),Array.getElem?_eq_getElem (by omega),Array.getElem?_eq_getElem (by omega),Array.getElem?_eq_getElem (by omega),Array.getElem?_eq_getElem (by omega),?_⟩
 congr 1
 apply List.ext_getElem
 ·simp;omega
 ·intro i h1 h2
  simp at h2
  have:i=0\/i=1\/i=2\/i=3\/i=4\/i=5\/i=6:=by omega
  rcases this with rfl | rfl | rfl | rfl | rfl | rfl | rfl<;>simp
theorem get_State:GetW Tryz.prog 24 10 7:=by
 intro b cs T fr w h hn hl
 obtain⟨v0,v1,v2,v3,v4,v5,v6,g0,g1,g2,g3,g4,g5,g6,hd⟩:=list7 cs hn
 rw[hd]
 have L:∀ {k:Nat} {v:Value},cs[k]? =some v->v.oneCell'=true:=fun {k v} hk=>leaf_one (hl v (by obtain⟨hk1,hk2⟩:=Array.getElem?_eq_some_iff.1 hk;rw[<-hk2];exact Array.getElem_mem_toList hk1))
 exact walk_State b cs T fr w h v0 v1 v2 v3 v4 v5 v6 g0 g1 g2 g3 g4 g5 g6 (L g0) (L g1) (L g2) (L g3) (L g4) (L g5) (L g6)
theorem h_daemon_Daemon_State[Tabs Tryz.prog]:(H_get 24 10 7).OK Tryz.prog:=H_get_ok ⟨_,rfl,by rfl,by rfl⟩ get_State
end Go.Tr
