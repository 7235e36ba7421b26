import Derived.Test.YthaiinlfnommnaaGreatDoorDnK
namespace Go.Dn
open Go
structure qi(P:Program):Prop where
 lay:eR P
 names: ∀(f:Nat) (fn:Func),P.funcs[f]? =some fn->(fn.name== "runtime.NumGoroutine")=false
 mixed:P.follows .mixedOrders=true
structure gU(w w':World):Prop where
 size:w.heap.size<=w'.heap.size
 os:w'.os=w.os
 tape:w'.tape=w.tape
 output:w'.output=w.output
 heap: ∀b,b<w.heap.size->w'.heap[b]? =w.heap[b]?
theorem gU.refl(w:World):gU w w:=⟨Nat.le_refl _,rfl,rfl,rfl,fun _ _=>rfl⟩
theorem gU.trans{a b c:World}(h:gU a b)(k:gU b c):gU a c:=
 ⟨Nat.le_trans h.size k.size,k.os.trans h.os,k.tape.trans h.tape,k.output.trans h.output,fun i hi=>(k.heap i (by have:=h.size;omega)).trans (h.heap i hi)⟩
def uG:List AV->Bool
 |[]=>true
 | .lit v::l=>bg v&&uG l
 |_::_=>false
def Ctx.bare(C:Ctx):Ctx:={C with X:=fun b=>(C.P.kept b).isSome=true,st:=[],ι:=fun _=>⟨0,0,true⟩,cls:=id}
theorem Lo{C:Ctx}(hI:Inv C):Inv C.bare:=by
 refine⟨hI.lay,fun i hi=>by simp[Ctx.bare] at hi,fun i j hi=>by simp[Ctx.bare] at hi,fun b hb=>?_,fun i hi=>by simp[Ctx.bare] at hi,fun b hb=>absurd rfl hb,fun b o h=>?_⟩
 ·obtain⟨o,h⟩:=Option.isSome_iff_exists.1 hb
  exact hI.xs b (hI.kept b o h).1
 ·exact⟨by show(C.P.kept b).isSome=true;rw[show C.P.kept b=some o from h];rfl,(hI.kept b o h).2⟩
theorem y4{C C':Ctx}: ∀(l:List AV) (vs:List Value),uG l=true->MT C l vs->MT C' l vs
 |[],vs,_,h=>by simpa[MT] using h
 | .lit u::l,[],_,h=>by simp[MT] at h
 | .lit u::l,v::vs,hl,h=>by
  simp only[uG,aa2] at hl
  simp only[MT,M] at h⊢
  exact⟨h.1,h.2.1,h.2.2.1,y4 l vs hl.2 h.2.2.2⟩
 | .cG::_,_,hl,_| .ad _ _::_,_,hl,_| .agg _::_,_,hl,_| .bh _::_,_,hl,_| .an _ _ _::_,_,hl,_| .ptr _ _ _ _::_,_,hl,_| .jS _ _::_,_,hl,_| .mp _::_,_,hl,_
 | .cD _::_,_,hl,_| .ku _ _::_,_,hl,_| .bL _ _::_,_,hl,_| .jj _ _::_,_,hl,_| .jE _ _ _ _::_,_,hl,_=>by simp[uG] at hl
def F4(P:Program)(f:FuncId)(C:Ctx)(vs:Array Value)(x:AV):Prop:=
 CallsIn Fence.wide 0 P f vs C.w (fun e w'=>∃v C1,e= .returned v/\C1.w=w'/\C1.P=C.P/\Inv C1/\Rel C1 x v/\Ext 0 C.bare C1)
def FI(E:Env):Prop:=
 ∀ f as x,E.gR f as=some (true,x)->∃fn,E.P.funcs[f]? =some fn/\fn.body.isSome=true/\
  ((∃u,x= .lit u/\bg u=true/\
   ∀(C:Ctx) (vs:Array Value),C.P=E.P->Inv C->MT C as vs.toList->CallsIn Fence.wide 0 E.P f vs C.w (fun e w'=>e= .returned u/\gU C.w w'))\/
   (uG as=true/\refs x=[]/\∀(C:Ctx) (vs:Array Value),C.P=E.P->Inv C->MT C as vs.toList->F4 E.P f C vs x))
theorem kb{P:Program}(hP:qi P){w:World}{f:FuncId}{fn:Func}(hf:P.funcs[f]? =some fn)(hb:fn.body.isSome=true)(args:Array Value):
  (callFunc f args).run P w= .ok (.enter f args) w:=by
 have hn:=hP.names f fn hf
 have hn': ¬ fn.name= "runtime.NumGoroutine" :=by simpa using hn
 have hb': ¬ fn.body=none:=by intro e;simp[e] at hb
 simp[callFunc,hf,hn',hb']
theorem ud{C:Ctx}{s:S}{a:Act}(hs:dt C s a): ∀(l:List Operand),MT C (np s l) (l.map a.eval)
 |[]=>by simp[np,MT]
 |x::l=>by
  simp only[np,ac1,MT]
  have:=bu hs x
  exact⟨this.1,this.2.1,this.2.2,ud hs l⟩
theorem IQ{C:Ctx}(hI:Inv C){a b:AV}{v:Value}(h:ry C.st a=some b)(hr:Rel C a v):Rel C.still b v:=by
 have We:ck C.st a=some b->Rel C.still b v:=fun h1=>by
  obtain⟨g1,g2,g3,g4⟩:=iL a b h1
  have hj:a≠ .cG:=by intro e;subst e;simp[ck] at h1
  exact⟨.inl (by rw[g1];exact hr.1.resolve_right hj), .inl (by rw[g2];exact hr.2.1.resolve_right hj),tO hI (oc hI) rfl a b _ _ h1 (fun i _ hi hl=>OZ hI hi hl) hr.2.2⟩
 unfold ry at h
 split at h
 ·rename_i i k m
  split at h
  ·rename_i T E ls pd hst
   simp only[aa4] at h;subst h
   obtain⟨hi,hs⟩:=gL hr
   have hsub:=(hs.2 _ _ _ _ hst).2
   have hob:=hI.obj i hi
   rw[hst] at hob
   obtain⟨_,_,hE,hty,_⟩:=hob
   obtain⟨p,cap,rfl,h1,h2,h3,h4⟩:=C8 hE (hty k) hsub
   refine⟨.inl rfl, .inl rfl,?_⟩
   simp only[M]
   refine⟨h3,p,cap,by rw[h2];rfl,by rw[h2];exact h1,fun hne=>?_⟩
   obtain⟨b,rfl,hlt,hm⟩:=h4 (by intro e;subst e;simp at hne)
   exact⟨b,0,rfl,hlt,fQ (oc hI) hI.lay _ E _ _ _ _ h3 (fun _ _=>rfl) hm⟩
  ·exact We h
 ·exact We h
theorem sV{C:Ctx}(hI:Inv C): ∀(l m:List AV) (vs:List Value),fw C.st l=some m->MT C l vs->MT C.still m vs
 |[],m,vs,h,hm=>by simp only[fw,aa4] at h;subst h;simpa[MT] using hm
 |_::_,_,[],_,hm=>by simp[MT] at hm
 | a::l,m,v::vs,h,hm=>by
  simp only[fw] at h
  split at h
  ·rename_i b m' h1 h2
   simp only[aa4] at h;subst h
   simp only[MT] at hm⊢
   have:=IQ hI h1 ⟨hm.1,hm.2.1,hm.2.2.1⟩
   exact⟨this.1,this.2.1,this.2.2,sV hI l m' vs h2 hm.2.2.2⟩
  ·simp at h
theorem EM{C:Ctx}: ∀(l:List AV) (vs:List Value) (i:Nat),MT C l vs->i<l.length->∃v,vs[i]? =some v/\Rel C (nth l i) v
 |[],_,_,_,h=>by simp at h
 |_::_,[],_,h,_=>by simp[MT] at h
 |a::l,v::vs,0,h,_=>by simp only[MT] at h;exact⟨v,rfl,h.1,h.2.1,h.2.2.1⟩
 |a::l,v::vs,i+1,h,hi=>by
  simp only[MT] at h
  simpa[nth] using EM l vs i h.2.2.2 (by simpa using hi)
theorem o7{C:Ctx}: ∀(l:List AV) (vs:List Value),MT C l vs->vs.length=l.length
 |[],vs,h=>by simp only[MT] at h;simp[h]
 |_::_,[],h=>by simp[MT] at h
 |a::l,v::vs,h=>by simp only[MT] at h;simp[o7 l vs h.2.2.2]
theorem GI{C:Ctx}{i lo n:Nat}{v:Value}(h:j6 C i lo n v)(hs:OJ (aw C.st i)=true):(v= .slice none 0 0/\n=0)\/ ∃q cap,v= .slice (some q) n cap:=by
 have row: ∀T xs,hJ (aw C.st i)=some (T,xs)->(v= .slice none 0 0/\n=0)\/ ∃q cap,v= .slice (some q) n cap:=fun T xs hel=>by
  rcases(h.1 T xs hel).2 with⟨_,rfl,_,rfl⟩|⟨_,cap,q,rfl,_⟩
  ·exact .inl ⟨rfl,rfl⟩
  ·exact .inr ⟨_,_,rfl⟩
 cases hx:aw C.st i<;>rw[hx] at hs<;>simp[OJ] at hs
 ·exact row _ _ (by rw[hx];rfl)
 ·exact row _ _ (by rw[hx];rfl)
 ·have h2:=h.2 _ _ _ _ hx
  cases lo with
  |zero=>obtain⟨_,cap,rfl,_⟩:=h2;exact .inr ⟨_,_,rfl⟩
  |succ k=>
   rcases h2.2.2 with⟨rfl,rfl⟩|⟨b,cap,c,rfl,_⟩
   ·exact .inl ⟨rfl,rfl⟩
   ·exact .inr ⟨_,_,rfl⟩
theorem IB{C:Ctx}(hI:Inv C){T ty:TypeId}{ts:Array TypeId}(hts:ts[0]? =some T){a x:AV}{va:Value}(h:Ah C.P C.st T a=some x)(hr:Rel C a va):
  ∃v,(Builtin.len_ ts ty #[va]).run C.P C.w= .ok v C.w/\Rel C x v:=by
 unfold Ah at h
 split at h
 ·rename_i hT
  simp only[aa4] at h;subst h
  have:=aQ hr;subst this
  exact⟨_,by simp[Builtin.len_,hts,run_underlying hT,goInt],a7 rfl⟩
 ·rename_i hT
  simp only[aa4] at h;subst h
  have:=aQ hr;subst this
  exact⟨_,by simp[Builtin.len_,hts,run_underlying hT,goInt],a7 rfl⟩
 ·rename_i i hT
  split at h
  ·rename_i K V es hst
   simp only[aa4] at h;subst h
   obtain⟨hi,hmp⟩:=sm hr
   have:=hmp K V es hst;subst this
   obtain⟨entries,clock,hh,hent,hmap⟩:=mD hI hi hst
   have hl: ∀(es:List (Value×AV)) (ents:List MapEntry),cn C V es ents->es.length=ents.length:=by
    intro es;induction es with
    |nil=>intro ents h;cases ents<;>simp_all[cn]
    |cons x es ih=>intro ents h;cases ents<;>simp_all[cn];exact ih _ h.2.2.2
   have:=hl es _ hent
   refine⟨.int .i64 entries.size,by simp[Builtin.len_,hts,run_underlying hT,run_getObj_map hh,goInt],?_⟩
   rw[this];simpa using a7 rfl
  ·simp at h
 ·rename_i hT
  simp only[aa4] at h;subst h
  have:=aQ hr;subst this
  exact⟨_,by simp[Builtin.len_,hts,run_underlying hT,goInt],a7 rfl⟩
 ·rename_i i lo n hT
  split at h
  ·rename_i hel
   simp only[aa4] at h;subst h
   rcases GI (gL hr).2 hel with⟨rfl,rfl⟩|⟨q,cap,rfl⟩
   ·exact⟨_,by simp[Builtin.len_,hts,run_underlying hT,goInt],a7 rfl⟩
   ·exact⟨_,by simp[Builtin.len_,hts,run_underlying hT,goInt],a7 rfl⟩
  ·simp at h
 ·rename_i K V ks vs hT
  simp only[aa4] at h;subst h
  rcases zP hr with⟨rfl,rfl,rfl⟩|⟨b,ents,clock,rfl,_,hh,hmap,rfl,hp,hmt⟩
  ·exact⟨_,by simp[Builtin.len_,hts,run_underlying hT,goInt],a7 rfl⟩
  ·refine⟨.int .i64 ents.size,by simp[Builtin.len_,hts,run_underlying hT,run_getObj_map hh,goInt],?_⟩
   simpa using a7 rfl
 ·rename_i T' l hT
  simp only[aa4] at h;subst h
  obtain⟨_,p,cap,rfl,_⟩:=q9 hr
  exact⟨_,by simp[Builtin.len_,hts,run_underlying hT,goInt],a7 rfl⟩
 ·simp at h
theorem xM{C:Ctx}(hI:Inv C){T:TypeId}{a:AV}{v:Value}(hr:Rel C a v):Rel C (GM C.P T a) v:=by
 unfold GM
 split
 ·split
  ·split
   ·rename_i h;exact(eG hI (iN _ _ _ _ h hr.2.2) hr).1
   ·exact hr
  ·exact hr
 ·split
  ·split
   ·rename_i h;exact(eG hI (iN _ _ _ _ h hr.2.2) hr).1
   ·exact hr
  ·exact hr
 ·exact hr
theorem uc{C:Ctx}(hI:Inv C): ∀(Ts:List TypeId) (l:List AV) (vs:List Value),MT C l vs->MT C (pE C.P Ts l) vs
 |[],l,vs,h=>by cases l<;>exact h
 |_::_,[],vs,h=>by simpa only[pE] using h
 |T::Ts,a::l,[],h=>by simp[MT] at h
 |T::Ts,a::l,v::vs,h=>by
  simp only[MT] at h
  have:=xM hI (T:=T) (a:=a) (v:=v) ⟨h.1,h.2.1,h.2.2.1⟩
  simp only[pE,MT]
  exact⟨this.1,this.2.1,this.2.2,uc hI Ts l vs h.2.2.2⟩
def OK(P:Program)(C:Ctx)(act:Act)(o:Oper)(x:AV):Prop:=
 (∃v,(execOp act.eval o).run P C.w= .ok (.value v) C.w/\Rel C x v)\/
 (∃f args u,(execOp act.eval o).run P C.w= .ok (.enter f args) C.w/\x= .lit u/\bg u=true/\
  CallsIn Fence.wide 0 P f args C.w (fun e w'=>e= .returned u/\gU C.w w'))\/
 (∃f args,(execOp act.eval o).run P C.w= .ok (.enter f args) C.w/\refs x=[]/\F4 P f C args x)
theorem Gc{s:S}{l:List Operand}{a:AV}(h:np s l=[a]): ∃x,l=[x]/\ev s x=a:=by
 match l,h with
 |[x],h=>simp only[np,List.cons.injEq,and_true] at h;exact⟨x,rfl,h⟩
 |[],h=>simp[np] at h
 |_::_::_,h=>simp[np] at h
theorem AY{s:S}{l:List Operand}{a b:AV}(h:np s l=[a,b]): ∃x y,l=[x,y]/\ev s x=a/\ev s y=b:=by
 match l,h with
 |[x,y],h=>simp only[np,List.cons.injEq,and_true] at h;exact⟨x,y,rfl,h.1,h.2⟩
 |[],h=>simp[np] at h
 |[_],h=>simp[np] at h
 |_::_::_::_,h=>simp[np] at h
theorem px{P:Program}{w:World}{α β:Type}{g:α->Sem β}{r:α->β}: ∀(l:List α),(∀x,x∈l->(g x).run P w= .ok (r x) w)->(l.mapM g).run P w= .ok (l.map r) w
 |[],_=>by simp
 |a::l,h=>by
  simp only[List.mapM_cons,Sem.run_bind,h a (by simp),Result.andThen_ok,px l (fun x hx=>h x (by simp[hx])),Sem.run_pure,ac1]
theorem uD{P:Program}{w:World}{α β:Type}{g:α->Sem β}{r:α->β}(l:Array α)(h: ∀x,x∈l->(g x).run P w= .ok (r x) w):(l.mapM g).run P w= .ok (l.map r) w:=by
 rw[Array.mapM_eq_mapM_toList,Sem.run_map,px l.toList (fun x hx=>h x (by simpa using hx))]
 simp only[Result.andThen_ok]
 rw[←Array.toList_map,Array.toArray_toList]
theorem ju{P:Program}{a:AV}{T:TypeId}(h:bC P a T): ∃d,P.underlying T=some d:=by
 cases hu:P.underlying T with
 |none=>cases a<;>simp[bC,hu] at h
 |some d=>exact⟨d,rfl⟩
theorem sK{P:Program}: ∀(l:List AV) (fs:List Field),dG P l fs->∀f,f∈fs->∃d,P.underlying f.type=some d
 |[],[],_,_,h=>by simp at h
 |[],_::_,h,_,_=>by simp[dG] at h
 |_::_,[],h,_,_=>by simp[dG] at h
 |a::l,g::fs,h,f,hf=>by
  simp only[dG] at h
  simp only[ac3] at hf
  rcases hf with rfl|hf
  ·exact ju h.1
  ·exact sK l fs h.2 f hf
theorem dq{P:Program}{w:World}{x:Sem Value}{v:Value}(h:x.run P w= .ok v w):(do pure (Next.value (←x)):Sem Next).run P w= .ok (.value v) w:=by
 simp[h]
theorem wu{C:Ctx}(hI:Inv C){T:TypeId}{a:AV}{u va:Value}(h:JX C.P T a=some u)(hr:Rel C a va):(Instr.loadAt T va).run C.P C.w= .ok u C.w/\bg u=true:=by
 unfold JX at h
 split at h
 ·rename_i g
  have hva:=aQ hr
  subst hva
  split at h
  ·rename_i cs ty fz hk
   split at h
   ·rename_i v hcs
    split at h
    ·rename_i hc
     simp only[aa4] at h
     subst h
     simp only[aa2,Bool.not_eq_true'] at hc
     obtain⟨⟨h1,h2⟩,h3⟩:=hc
     obtain⟨d,hd⟩:=Option.isSome_iff_exists.1 h3
     obtain⟨_,hh⟩:=hI.kept _ _ hk
     have hcell:C.w.cell? ⟨g,0,none⟩=some v:=by
      have:cs[0]? =some v:=by rw[←Array.getElem?_toList,hcs];rfl
      simp only[World.cell?,hh]
      exact this
     refine⟨?_,h1⟩
     simp only[Instr.loadAt,Instr.sureAddr,Sem.run_bind,Sem.run_pure,Result.andThen_ok,loadVar,kt hd,h2,Bool.false_eq_true,if_false]
     exact lr hcell
    ·cases h
   ·cases h
  ·cases h
 ·cases h
theorem DI{E:Env}(hE:qi E.P)(hp:FI E){C:Ctx}(hC:C.P=E.P)(hI:Inv C){s:S}{act:Act}(hs:dt C s act){o:Oper}{x:AV}(h:bJ E s o.op=some (true,x)):OK C.P C act o x:=by
 obtain⟨dst,op,type,pos,after,guard⟩:=o
 simp only at h
 have hE':qi C.P:=hC▸hE
 unfold bJ at h
 split at h
 ·
  rename_i y
  simp only[aa4,ab0,true_and] at h;subst h
  exact .inl ⟨_,rfl,bu hs y⟩
 ·rename_i y
  simp only[aa4,ab0,true_and] at h;subst h
  exact .inl ⟨_,rfl,bu hs y⟩
 ·
  rename_i T y
  split at h
  ·rename_i u hu
   simp only[aa4,ab0,true_and] at h;subst h
   rw[←hC] at hu
   exact .inl ⟨u,dq (wu hI hu (bu hs y)).1,a7 (wu hI hu (bu hs y)).2⟩
  ·rw[←hC,←hs.st] at h
   obtain⟨v,h1,h2⟩:=uI hI h (bu hs y)
   exact .inl ⟨v,dq h1,h2⟩
 ·
  rename_i T y
  rw[←hC] at h
  have hr:=bu hs y
  unfold CZ at h
  split at h
  ·cases h
  ·cases h
  ·rename_i d hni hd
   have hrun: ∀v,(Instr.makeInterface T v).run C.P C.w= .ok (.iface T v) C.w:=fun v=>by
    simp only[Instr.makeInterface,Sem.run_bind,run_underlying hd,Result.andThen_ok]
    cases d<;>first|rfl|exact absurd rfl (hni _)
   split at h
   ·rename_i v hev
    cases h
    rw[hev] at hr
    have:=aQ hr
    exact .inl ⟨.iface T v,by rw[←this];exact dq (hrun _),a7 rfl⟩
   ·cases h
   ·rename_i hne1 hne2
    cases h
    refine .inl ⟨.iface T (act.eval y),dq (hrun _), .inl rfl, .inl rfl,?_⟩
    simp only[M]
    refine⟨act.eval y,rfl,hr.1.resolve_right hne2,hr.2.1.resolve_right hne2,hr.2.2⟩
 ·
  rename_i S T y
  rw[←hC] at h
  have hr:=bu hs y
  unfold Qf at h
  split at h
  ·rename_i d k k' n hS hT hev
   cases h
   rw[hev] at hr
   have:=aQ hr
   refine .inl ⟨.int k (k.wrap n),dq ?_,a7 rfl⟩
   rw[this]
   simp only[convert,Sem.run_bind,run_underlying hS,run_underlying hT,Result.andThen_ok]
   rfl
  ·cases h
 ·
  rename_i y
  have hr:=bu hs y
  split at h
  ·rename_i i k p off hev
   split at h
   ·rename_i hl
    simp only[aa4,ab0,true_and] at h;subst h
    rw[hev] at hr
    obtain⟨_,hp⟩:=mM hr
    obtain⟨b,o,hv⟩:=CV (by rw[hs.st];exact hl) hp
    rw[hv] at hr
    exact .inl ⟨_,by simp[execOp,hv],hr⟩
   ·simp at h
  ·rename_i T a hev
   simp only[aa4,ab0,true_and] at h;subst h
   rw[hev] at hr
   obtain⟨b,o,hv,_⟩:=y3 hr
   rw[hv] at hr
   exact .inl ⟨_,by simp[execOp,hv],hr⟩
  ·rename_i f caps hev
   simp only[aa4,ab0,true_and] at h;subst h
   rw[hev] at hr
   obtain⟨vs,hv,_⟩:=tW hr
   rw[hv] at hr
   exact .inl ⟨_,by simp[execOp,hv],hr⟩
  ·simp at h
 ·
  rename_i op T y z T'
  split at h
  ·rename_i r hb
   simp only[aa4] at h
   subst h
   rw[←hC] at hb
   obtain⟨v,h1,h2,rfl⟩:=Jg (ox:=y) hb (bu hs y)
   exact .inl ⟨v,dq h1,h2⟩
  ·split at h
   ·rename_i r hb
    simp only[aa4] at h
    subst h
    obtain⟨v,h1,h2⟩:=EW (C:=C) (T:=T) (ox:=y) (oy:=z) (by first|exact hb|(rw[hC];exact hb)) (bu hs y) (bu hs z)
    exact .inl ⟨v,dq h1,h2⟩
   ·obtain⟨v,h1,h2⟩:=HV (C:=C) (T:=T) (ox:=y) (oy:=z) h (bu hs y) (bu hs z)
    exact .inl ⟨v,dq h1,h2⟩
 ·
  rename_i op T y
  have hr:=bu hs y
  split at h
  ·rename_i b hev
   simp only[aa4,ab0,true_and] at h;subst h
   rw[hev] at hr
   have:=aQ hr
   exact .inl ⟨.bool !b,by simp[execOp,this,Op.unary],a7 rfl⟩
  ·rename_i k n hev
   simp only[aa4,ab0,true_and] at h;subst h
   rw[hev] at hr
   have:=aQ hr
   exact .inl ⟨.int k (k.wrap (0 - n)),by simp[execOp,this,Op.unary,Op.intArith],a7 rfl⟩
  ·simp at h
 ·
  rename_i T y lo hi
  rw[←hC] at h
  obtain⟨v,h1,h2⟩:=BD hI hs h (bu hs y)
  exact .inl ⟨v,dq h1,h2⟩
 ·
  rename_i T y lo hi m
  rw[←hC] at h
  obtain⟨v,h1,h2⟩:=zk hI hs h (bu hs y)
  exact .inl ⟨v,dq h1,h2⟩
 ·
  rename_i T y f
  rw[←hC,←hs.st] at h
  obtain⟨v,h1,h2⟩:=tG hI h (bu hs y)
  exact .inl ⟨v,dq h1,h2⟩
 ·
  rename_i T y f
  rw[←hC] at h
  obtain⟨v,h1,h2⟩:=BY hI h (bu hs y)
  exact .inl ⟨v,dq h1,h2⟩
 ·
  rename_i T y i
  rw[←hC] at h
  obtain⟨v,h1,h2⟩:=tz hI hs.st h (bu hs y) (bu hs i)
  exact .inl ⟨v,dq h1,h2⟩
 ·
  rename_i T y i
  rw[←hC] at h
  obtain⟨v,h1,h2⟩:=Cf h (bu hs y) (bu hs i)
  exact .inl ⟨v,dq h1,h2⟩
 ·
  rename_i T m k ok
  rw[←hC] at h
  obtain⟨v,h1,h2⟩:=zz hI hs.st h (bu hs m) (bu hs k)
  exact .inl ⟨v,dq h1,h2⟩
 ·
  rename_i y i
  have hr:=bu hs y
  split at h
  ·rename_i l hev
   split at h
   ·rename_i hi
    simp only[aa4,ab0,true_and] at h;subst h
    rw[hev] at hr
    obtain⟨vs,hv,hm⟩:=y6 hr
    obtain⟨v,h1,h2⟩:=EM l vs.toList i hm hi
    have h1':vs[i]? =some v:=by simpa using h1
    exact .inl ⟨v,by simp[execOp,hv,Instr.extract,h1'],h2⟩
   ·simp at h
  ·simp at h
 ·
  rename_i f first caps
  split at h
  ·rename_i hf
   simp only[aa4,ab0,true_and] at h;subst h
   have hf':first= #[]:=by simpa using hf
   subst hf'
   refine .inl ⟨.func (.func f) #[] (caps.map act.eval),by simp[execOp,Instr.makeFunc], .inl rfl, .inl rfl,?_⟩
   simp only[M]
   exact⟨caps.map act.eval,by simp[Value.cells],by simpa using ud hs caps.toList⟩
  ·simp at h
 ·
  rename_i T parts
  split at h
  ·rename_i l hz
   split at h
   ·rename_i a hb
    simp only[aa4,ab0,true_and] at h;subst h
    rw[←hC] at hz hb
    obtain⟨i,zv,hi,hzv,hrz,_,hpz⟩:=dS hI hz
    obtain⟨cs,rfl,hsz,hm⟩:=GG hrz
    simp only[bC] at hpz
    obtain⟨fs,⟨hfs,_⟩,hpf⟩:=hpz
    have hplace: ∀(i:Nat) (fd:Field),fs[i]? =some fd->(fun j=>((fs.map fun f=>(f.offset,C.P.cellsOf f.type)))[j]?) i=some (fd.offset,C.P.cellsOf fd.type):=by
     intro i fd h;simp[h]
    obtain⟨cells',h1,h2⟩:=wk hI hs hfs hplace parts.toList l cs _ hb hm hsz
    have hmap:=uD (P:=C.P) (w:=C.w) (g:=fun f:Field=>do pure (f.offset,←sizeOf f.type)) (r:=fun f=>(f.offset,C.P.cellsOf f.type)) fs (fun f hf=>by
     obtain⟨d,hd⟩:=sK _ _ hpf f (by simpa using hf)
     simp[run_sizeOf hd])
    have hparts:(parts.map fun x=>(x.1,act.eval x.2)).toList=parts.toList.map fun p=>(p.1,act.eval p.2):=by simp
    refine .inl ⟨.agg cells',dq ?_,h2⟩
    unfold Instr.build
    simp only[Sem.run_bind,jL hi hzv,Result.andThen_ok,run_underlying hfs,Value.cells]
    rw[hmap]
    simp only[Result.andThen_ok]
    have h1':Instr.fill (fun x=>(Array.map (fun f:Field=>(f.offset,C.P.cellsOf f.type)) fs)[x]?) cs (Array.map (fun x:Nat×Operand=>(x.1,act.eval x.2)) parts).toList=some cells':=by rw[hparts];exact h1
    simp only[h1',Sem.run_pure]
   ·simp at h
  ·simp at h
 ·
  rename_i args ts
  split at h
  ·rename_i a T tl hev hts
   split at h
   ·rename_i y hl
    simp only[aa4,ab0,true_and] at h;subst h
    obtain⟨z,hz,rfl⟩:=Gc hev
    have ha:args= #[z]:=by rw[←Array.toArray_toList (xs:=args),hz]
    subst ha
    have hts':ts[0]? =some T:=by rw[←Array.getElem?_toList,hts];rfl
    rw[←hC,←hs.st] at hl
    obtain⟨v,h1,h2⟩:=IB hI (ty:=type) hts' hl (bu hs z)
    exact .inl ⟨v,by simp[execOp,resolve,invoke,builtin,h1],h2⟩
   ·simp at h
  ·simp at h
 ·
  rename_i args ts
  split at h
  ·rename_i k n k' m hev
   split at h
   ·rename_i hk
    subst hk
    simp only[aa4,ab0,true_and] at h;subst h
    obtain⟨y,z,hz,h1,h2⟩:=AY hev
    have ha:args= #[y,z]:=by rw[←Array.toArray_toList (xs:=args),hz]
    subst ha
    have r1:=bu hs y;rw[h1] at r1
    have r2:=bu hs z;rw[h2] at r2
    have e1:=aQ r1
    have e2:=aQ r2
    exact .inl ⟨_,by simp[execOp,resolve,invoke,builtin,Builtin.min_,Builtin.min2,e1,e2],a7 rfl⟩
   ·simp at h
  ·simp at h
 ·
  rename_i args ts
  split at h
  ·rename_i k n k' m hev
   split at h
   ·rename_i hk
    subst hk
    simp only[aa4,ab0,true_and] at h;subst h
    obtain⟨y,z,hz,h1,h2⟩:=AY hev
    have ha:args= #[y,z]:=by rw[←Array.toArray_toList (xs:=args),hz]
    subst ha
    have r1:=bu hs y;rw[h1] at r1
    have r2:=bu hs z;rw[h2] at r2
    have e1:=aQ r1
    have e2:=aQ r2
    exact .inl ⟨_,by simp[execOp,resolve,invoke,builtin,Builtin.max_,Builtin.max2,e1,e2],a7 rfl⟩
   ·simp at h
  ·simp at h
 ·
  rename_i f args ts
  split at h
  ·rename_i as hpa
   rw[←hs.st] at hpa
   have hmt:=sV hI _ as _ hpa (ud hs args.toList)
   have hmt2:=uc (yb hI) (kB E.P f) as _ hmt
   rw[show C.still.P=E.P from hC] at hmt2
   obtain⟨fn,hf,hb,⟨u,rfl,hu,hcall⟩|⟨hl,hx,hcall⟩⟩:=hp f _ x h
   ·have hrun:=hcall C.still (args.map act.eval) hC (yb hI) (by simpa using hmt2)
    rw[←hC] at hf hrun
    refine .inr (.inl ⟨f,args.map act.eval,u,?_,rfl,hu,hrun⟩)
    simp[execOp,resolve,Deferred.ofValue,invoke,Act.eval,kb hE' hf hb]
   ·have hmt3:=y4 (C':=C) _ _ hl hmt2
    have hrun:=hcall C (args.map act.eval) hC hI (by simpa using hmt3)
    rw[←hC] at hf hrun
    refine .inr (.inr ⟨f,args.map act.eval,?_,hx,hrun⟩)
    simp[execOp,resolve,Deferred.ofValue,invoke,Act.eval,kb hE' hf hb]
  ·simp at h
 ·simp at h
end Go.Dn
