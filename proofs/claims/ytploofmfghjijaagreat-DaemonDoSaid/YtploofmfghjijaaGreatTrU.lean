/- Functions: what a call answers, of closed data; calls among functions.
  Conditions: none. -/
import Derived.Test.YtploofmfghjijaaGreatBC
namespace Go.Tr
open Go
set_option linter.unusedVariables false
set_option linter.unusedSimpArgs false
noncomputable def yA(P:Program)(tm:Nat->Option AV)(ob:Nat->Option AO):List ResultVar->Option (List Prop×List AV)
 | []=>some ([],[])
 | .tmp t::r=>match yA P tm ob r with
  | some (q,l)=>match tm t with
   | some v=>some (q,v::l)
   | none=>none
  | none=>none
 | .cell t T::r=>match yA P tm ob r with
  | some (q,l)=>match tm t with
   | some v=>match Ak P T ob v with
    | some (p,w)=>some (bQ p q,w::l)
    | none=>none
   | none=>none
  | none=>none
def vm(l:List AV):AV:=
 match l with
 | [v]=>v
 | l=>.fG l
section
variable {W0:WX} {okIn B us:Nat->Prop} {tm:Nat->Option AV} {ob:Nat->Option AO} {nt:Nat} {E:Env} {a:Act}
theorem zot{P:Program}{T:TypeId}{v z:Value}{w w':World}(h:(Instr.loadAt T v).run P w=.ok z w'):((do loadVar T (← asAddr v)):Sem Value).run P w=.ok z w':=by
 cases v<;>simp only[Instr.loadAt,Instr.sureAddr,Sem.run_bind,run_stuck,Result.andThen_halt,reduceCtorEq] at h
 rename_i p
 cases p with
 | none=>simp at h
 | some ad=>simpa [asAddr] using h
theorem HW{P:Program}(hs:df W0 okIn B us tm ob nt E a):∀ {rs:List ResultVar} {l:List AV} {q:List Prop},yA P tm ob rs=some (q,l)->(∀ p∈q,p)->
  ∃ vs,(rs.mapM (fun | .tmp t=>pure (a.tmps.getD t undef) | .cell b t=>do loadVar t (← asAddr (a.tmps.getD b undef)):ResultVar->Sem Value)).run P E.w=.ok vs E.w/\aR E l vs
 | [],l,q,h,_=>by
  simp only[yA,Option.some.injEq,Prod.mk.injEq] at h
  obtain⟨rfl,rfl⟩:=h
  exact⟨[],by simp,by simp[aR]⟩
 | .tmp t::r,l,q,h,hq=>by
  unfold yA at h
  split at h
  ·rename_i q' l' h1
   split at h
   ·rename_i v hv
    simp only[Option.some.injEq,Prod.mk.injEq] at h
    obtain⟨rfl,rfl⟩:=h
    obtain⟨vs,g1,g2⟩:=HW hs h1 hq
    refine⟨a.tmps.getD t undef::vs,?_,?_⟩
    ·simp only[List.mapM_cons,Sem.run_bind,Sem.run_pure,Result.andThen_ok,g1]
    ·simp only[aR];exact⟨_,_,rfl,(hs.tmp t v hv).1,g2⟩
   ·simp at h
  ·simp at h
 | .cell t T::r,l,q,h,hq=>by
  unfold yA at h
  split at h
  ·rename_i q' l' h1
   split at h
   ·rename_i v hv
    split at h
    ·rename_i p w hl
     simp only[Option.some.injEq,Prod.mk.injEq] at h
     obtain⟨rfl,rfl⟩:=h
     obtain⟨vs,g1,g2⟩:=HW hs h1 (eY hq)
     obtain⟨z,k1,k2,k3⟩:=YA hs hl (eX hq) (hs.tmp t v hv).1
     refine⟨z::vs,?_,?_⟩
     ·have:=zot k1
      simp only[List.mapM_cons,Sem.run_bind] at this ⊢
      simp only[this,Result.andThen_ok,g1,Sem.run_pure]
     ·simp only[aR];exact⟨_,_,rfl,k2,g2⟩
    ·simp at h
   ·simp at h
  ·simp at h
theorem zou{P:Program}{fn:Func}(hs:df W0 okIn B us tm ob nt E a){l:List AV}{q:List Prop}(h:yA P tm ob fn.results.toList=some (q,l))(hq:∀ p∈q,p):
  ∃ x,(results fn a.tmps).run P E.w=.ok x E.w/\VR E (vm l) x:=by
 obtain⟨vs,h1,h2⟩:=HW hs h hq
 have hm:(fn.results.mapM (fun | .tmp t=>pure (a.tmps.getD t undef) | .cell b t=>do loadVar t (← asAddr (a.tmps.getD b undef)):ResultVar->Sem Value)).run P E.w=.ok vs.toArray E.w:=by
  rw[Array.mapM_eq_mapM_toList,Sem.run_map,h1];rfl
 have hr:(results fn a.tmps).run P E.w=.ok (if h:vs.toArray.size=1 then vs.toArray[0] else .tuple vs.toArray) E.w:=by
  have e1:(results fn a.tmps).run P E.w=((fn.results.mapM (fun | .tmp t=>pure (a.tmps.getD t undef) | .cell b t=>do loadVar t (← asAddr (a.tmps.getD b undef)):ResultVar->Sem Value)).run P E.w).andThen
    fun vs w'=>(pure (if h:vs.size=1 then vs[0] else .tuple vs):Sem Value).run P w':=by
   unfold results
   rw[Sem.run_bind]
   rfl
  rw[e1,hm]
  rfl
 refine⟨_,hr,?_⟩
 cases l with
 | nil=>simp only[aR] at h2;subst h2;exact⟨[],rfl,by simp[aR]⟩
 | cons v l=>
  cases l with
  | nil=>
   simp only[aR] at h2
   obtain⟨x,r,rfl,hx,rfl⟩:=h2
   exact hx
  | cons v' l=>
   have eZ:=h2
   simp only[aR] at h2
   obtain⟨x,r,rfl,hx,x',r',rfl,DQ,AW⟩:=h2
   exact⟨_,by simp,eZ⟩
end
def callable(P : Program)(F : FuncId) : Prop := ∃ fn, P.funcs[F]? = some fn ∧ (fn.name == "runtime.NumGoroutine") = false ∧ fn.body.isNone = false
structure zov(w w':World):Prop where
 heap:∀ b,b<w.heap.size->w'.heap[b]? =w.heap[b]?
 size:w.heap.size<=w'.heap.size
 os:w'.os=w.os
 tape:w'.tape=w.tape
 output:w'.output=w.output
def Z3(P:Program)[Tabs P](F:FuncId)(args:List AV)(r:AV):Prop:=
 callable P F/\∀ (w:World) (ok:Nat->Prop) (vs:List Value),Tabs.G P w (fun b=>b<w.heap.size)->(∀ b,ok b->b<w.heap.size)->aR ⟨w,fun _=>none,ok⟩ args vs->
  Calls P F vs.toArray w fun e w'=>∃ x nu,e=.returned x/\zov w w'/\(∀ b,ok b->nu b)/\(∀ b,nu b->b<w'.heap.size/\(ok b\/w.heap.size<=b))/\VR ⟨w',fun _=>none,nu⟩ r x
end Go.Tr
