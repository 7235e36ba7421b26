import Derived.Test.YthaiinlfnommnaaGreatDoorDnK
namespace Go.Dn
open Go
structure pJ(P:Program):Prop where
 lay:eP P
 names: ∀(f:Nat) (fn:Func),P.funcs[f]? =some fn->(fn.name== "runtime.NumGoroutine")=false
 mixed:P.follows .mixedOrders=true
structure gP(w w':World):Prop where
 size:w.heap.size<=w'.heap.size
 os:w'.os=w.os
 tape:w'.tape=w.tape
 output:w'.output=w.output
 heap: ∀b,b<w.heap.size->w'.heap[b]? =w.heap[b]?
theorem gP.refl(w:World):gP w w:=⟨Nat.le_refl _,rfl,rfl,rfl,fun _ _=>rfl⟩
theorem gP.trans{a b c:World}(h:gP a b)(k:gP b c):gP a c:=
 ⟨Nat.le_trans h.size k.size,k.os.trans h.os,k.tape.trans h.tape,k.output.trans h.output,fun i hi=>(k.heap i (by have:=h.size;omega)).trans (h.heap i hi)⟩
def wo:List AV->Bool
 |[]=>true
 | .lit v::l=>bg v&&wo l
 |_::_=>false
def Ctx.bare(C:Ctx):Ctx:={C with X:=fun b=>(C.P.kept b).isSome=true,st:=[],ι:=fun _=>⟨0,0,true⟩,cls:=id}
theorem I6{C:Ctx}(hI:Inv C):Inv C.bare:=by
 refine⟨hI.lay,fun i hi=>by simp[Ctx.bare] at hi,fun i j hi=>by simp[Ctx.bare] at hi,fun b hb=>?_,fun i hi=>by simp[Ctx.bare] at hi,fun b hb=>absurd rfl hb,fun b o h=>?_⟩
 ·obtain⟨o,h⟩:=Option.isSome_iff_exists.1 hb
  exact hI.xs b (hI.kept b o h).1
 ·exact⟨by show(C.P.kept b).isSome=true;rw[show C.P.kept b=some o from h];rfl,(hI.kept b o h).2⟩
theorem zm{C C':Ctx}: ∀(l:List AV) (vs:List Value),wo l=true->MT C l vs->MT C' l vs
 |[],vs,_,h=>by simpa[MT] using h
 | .lit u::l,[],_,h=>by simp[MT] at h
 | .lit u::l,v::vs,hl,h=>by
  simp only[wo,aa2] at hl
  simp only[MT,M] at h⊢
  exact⟨h.1,h.2.1,h.2.2.1,zm l vs hl.2 h.2.2.2⟩
 | .cH::_,_,hl,_| .ad _ _::_,_,hl,_| .agg _::_,_,hl,_| .bh _::_,_,hl,_| .aq _ _ _::_,_,hl,_| .ptr _ _ _ _::_,_,hl,_| .jO _ _::_,_,hl,_| .mp _::_,_,hl,_
 | .cD _::_,_,hl,_| .kq _ _::_,_,hl,_| .bL _ _::_,_,hl,_| .jj _ _::_,_,hl,_| .jG _ _ _ _::_,_,hl,_=>by simp[wo] at hl
def G2(P:Program)(f:FuncId)(C:Ctx)(vs:Array Value)(x:AV):Prop:=
 CallsIn Fence.wide 0 P f vs C.w (fun e w'=>∃v C1,e= .returned v/\C1.w=w'/\C1.P=C.P/\Inv C1/\Rel C1 x v/\Ext 0 C.bare C1)
def F5(E:Env):Prop:=
 ∀ f as x,E.gQ f as=some (true,x)->∃fn,E.P.funcs[f]? =some fn/\fn.body.isSome=true/\
  ((∃u,x= .lit u/\bg u=true/\
   ∀(C:Ctx) (vs:Array Value),C.P=E.P->Inv C->MT C as vs.toList->CallsIn Fence.wide 0 E.P f vs C.w (fun e w'=>e= .returned u/\gP C.w w'))\/
   (wo as=true/\refs x=[]/\∀(C:Ctx) (vs:Array Value),C.P=E.P->Inv C->MT C as vs.toList->G2 E.P f C vs x))
theorem j9{P:Program}(hP:pJ P){w:World}{f:FuncId}{fn:Func}(hf:P.funcs[f]? =some fn)(hb:fn.body.isSome=true)(args:Array Value):
  (callFunc f args).run P w= .ok (.enter f args) w:=by
 have hn:=hP.names f fn hf
 have hn': ¬ fn.name= "runtime.NumGoroutine" :=by simpa using hn
 have hb': ¬ fn.body=none:=by intro e;simp[e] at hb
 simp[callFunc,hf,hn',hb']
theorem tH{C:Ctx}{s:S}{a:Act}(hs:dt C s a): ∀(l:List Operand),MT C (mZ s l) (l.map a.eval)
 |[]=>by simp[mZ,MT]
 |x::l=>by
  simp only[mZ,ac1,MT]
  have:=bt hs x
  exact⟨this.1,this.2.1,this.2.2,tH hs l⟩
theorem H9{C:Ctx}(hI:Inv C){a b:AV}{v:Value}(h:qG C.st a=some b)(hr:Rel C a v):Rel C.still b v:=by
 have VZ:ck C.st a=some b->Rel C.still b v:=fun h1=>by
  obtain⟨g1,g2,g3,g4⟩:=iF a b h1
  have hj:a≠ .cH:=by intro e;subst e;simp[ck] at h1
  exact⟨.inl (by rw[g1];exact hr.1.resolve_right hj), .inl (by rw[g2];exact hr.2.1.resolve_right hj),tD hI (nK hI) rfl a b _ _ h1 (fun i _ hi hl=>MZ hI hi hl) hr.2.2⟩
 unfold qG at h
 split at h
 ·rename_i i k m
  split at h
  ·rename_i T E ls pd hst
   simp only[aa4] at h;subst h
   obtain⟨hi,hs⟩:=gG hr
   have hsub:=(hs.2 _ _ _ _ hst).2
   have hob:=hI.obj i hi
   rw[hst] at hob
   obtain⟨_,_,hE,hty,_⟩:=hob
   obtain⟨p,cap,rfl,h1,h2,h3,h4⟩:=B4 hE (hty k) hsub
   refine⟨.inl rfl, .inl rfl,?_⟩
   simp only[M]
   refine⟨h3,p,cap,by rw[h2];rfl,by rw[h2];exact h1,fun hne=>?_⟩
   obtain⟨b,rfl,hlt,hm⟩:=h4 (by intro e;subst e;simp at hne)
   exact⟨b,0,rfl,hlt,fI (nK hI) hI.lay _ E _ _ _ _ h3 (fun _ _=>rfl) hm⟩
  ·exact VZ h
 ·exact VZ h
theorem sH{C:Ctx}(hI:Inv C): ∀(l m:List AV) (vs:List Value),fv C.st l=some m->MT C l vs->MT C.still m vs
 |[],m,vs,h,hm=>by simp only[fv,aa4] at h;subst h;simpa[MT] using hm
 |_::_,_,[],_,hm=>by simp[MT] at hm
 | a::l,m,v::vs,h,hm=>by
  simp only[fv] at h
  split at h
  ·rename_i b m' h1 h2
   simp only[aa4] at h;subst h
   simp only[MT] at hm⊢
   have:=H9 hI h1 ⟨hm.1,hm.2.1,hm.2.2.1⟩
   exact⟨this.1,this.2.1,this.2.2,sH hI l m' vs h2 hm.2.2.2⟩
  ·simp at h
theorem EU{C:Ctx}: ∀(l:List AV) (vs:List Value) (i:Nat),MT C l vs->i<l.length->∃v,vs[i]? =some v/\Rel C (nth l i) v
 |[],_,_,_,h=>by simp at h
 |_::_,[],_,h,_=>by simp[MT] at h
 |a::l,v::vs,0,h,_=>by simp only[MT] at h;exact⟨v,rfl,h.1,h.2.1,h.2.2.1⟩
 |a::l,v::vs,i+1,h,hi=>by
  simp only[MT] at h
  simpa[nth] using EU l vs i h.2.2.2 (by simpa using hi)
theorem oW{C:Ctx}: ∀(l:List AV) (vs:List Value),MT C l vs->vs.length=l.length
 |[],vs,h=>by simp only[MT] at h;simp[h]
 |_::_,[],h=>by simp[MT] at h
 |a::l,v::vs,h=>by simp only[MT] at h;simp[oW l vs h.2.2.2]
theorem Fu{C:Ctx}{i lo n:Nat}{v:Value}(h:j2 C i lo n v)(hs:O2 (ax C.st i)=true):(v= .slice none 0 0/\n=0)\/ ∃q cap,v= .slice (some q) n cap:=by
 have row: ∀T xs,gY (ax C.st i)=some (T,xs)->(v= .slice none 0 0/\n=0)\/ ∃q cap,v= .slice (some q) n cap:=fun T xs hel=>by
  rcases(h.1 T xs hel).2 with⟨_,rfl,_,rfl⟩|⟨_,cap,q,rfl,_⟩
  ·exact .inl ⟨rfl,rfl⟩
  ·exact .inr ⟨_,_,rfl⟩
 cases hx:ax C.st i<;>rw[hx] at hs<;>simp[O2] at hs
 ·exact row _ _ (by rw[hx];rfl)
 ·exact row _ _ (by rw[hx];rfl)
 ·have h2:=h.2 _ _ _ _ hx
  cases lo with
  |zero=>obtain⟨_,cap,rfl,_⟩:=h2;exact .inr ⟨_,_,rfl⟩
  |succ k=>
   rcases h2.2.2 with⟨rfl,rfl⟩|⟨b,cap,c,rfl,_⟩
   ·exact .inl ⟨rfl,rfl⟩
   ·exact .inr ⟨_,_,rfl⟩
theorem HP{C:Ctx}(hI:Inv C){T ty:TypeId}{ts:Array TypeId}(hts:ts[0]? =some T){a x:AV}{va:Value}(h:yN C.P C.st T a=some x)(hr:Rel C a va):
  ∃v,(Builtin.len_ ts ty #[va]).run C.P C.w= .ok v C.w/\Rel C x v:=by
 unfold yN at h
 split at h
 ·rename_i hT
  simp only[aa4] at h;subst h
  have:=aQ hr;subst this
  exact⟨_,by simp[Builtin.len_,hts,run_underlying hT,goInt],a6 rfl⟩
 ·rename_i hT
  simp only[aa4] at h;subst h
  have:=aQ hr;subst this
  exact⟨_,by simp[Builtin.len_,hts,run_underlying hT,goInt],a6 rfl⟩
 ·rename_i i hT
  split at h
  ·rename_i K V es hst
   simp only[aa4] at h;subst h
   obtain⟨hi,hmp⟩:=rp hr
   have:=hmp K V es hst;subst this
   obtain⟨entries,clock,hh,hent,hmap⟩:=mB hI hi hst
   have hl: ∀(es:List (Value×AV)) (ents:List MapEntry),cn C V es ents->es.length=ents.length:=by
    intro es;induction es with
    |nil=>intro ents h;cases ents<;>simp_all[cn]
    |cons x es ih=>intro ents h;cases ents<;>simp_all[cn];exact ih _ h.2.2.2
   have:=hl es _ hent
   refine⟨.int .i64 entries.size,by simp[Builtin.len_,hts,run_underlying hT,run_getObj_map hh,goInt],?_⟩
   rw[this];simpa using a6 rfl
  ·simp at h
 ·rename_i hT
  simp only[aa4] at h;subst h
  have:=aQ hr;subst this
  exact⟨_,by simp[Builtin.len_,hts,run_underlying hT,goInt],a6 rfl⟩
 ·rename_i i lo n hT
  split at h
  ·rename_i hel
   simp only[aa4] at h;subst h
   rcases Fu (gG hr).2 hel with⟨rfl,rfl⟩|⟨q,cap,rfl⟩
   ·exact⟨_,by simp[Builtin.len_,hts,run_underlying hT,goInt],a6 rfl⟩
   ·exact⟨_,by simp[Builtin.len_,hts,run_underlying hT,goInt],a6 rfl⟩
  ·simp at h
 ·rename_i K V ks vs hT
  simp only[aa4] at h;subst h
  rcases zn hr with⟨rfl,rfl,rfl⟩|⟨b,ents,clock,rfl,_,hh,hmap,rfl,hp,hmt⟩
  ·exact⟨_,by simp[Builtin.len_,hts,run_underlying hT,goInt],a6 rfl⟩
  ·refine⟨.int .i64 ents.size,by simp[Builtin.len_,hts,run_underlying hT,run_getObj_map hh,goInt],?_⟩
   simpa using a6 rfl
 ·rename_i T' l hT
  simp only[aa4] at h;subst h
  obtain⟨_,p,cap,rfl,_⟩:=rf hr
  exact⟨_,by simp[Builtin.len_,hts,run_underlying hT,goInt],a6 rfl⟩
 ·simp at h
theorem xu{C:Ctx}(hI:Inv C){T:TypeId}{a:AV}{v:Value}(hr:Rel C a v):Rel C (FL C.P T a) v:=by
 unfold FL
 split
 ·split
  ·split
   ·rename_i h;exact(eG hI (iU _ _ _ _ h hr.2.2) hr).1
   ·exact hr
  ·exact hr
 ·split
  ·split
   ·rename_i h;exact(eG hI (iU _ _ _ _ h hr.2.2) hr).1
   ·exact hr
  ·exact hr
 ·exact hr
theorem tF{C:Ctx}(hI:Inv C): ∀(Ts:List TypeId) (l:List AV) (vs:List Value),MT C l vs->MT C (pc C.P Ts l) vs
 |[],l,vs,h=>by cases l<;>exact h
 |_::_,[],vs,h=>by simpa only[pc] using h
 |T::Ts,a::l,[],h=>by simp[MT] at h
 |T::Ts,a::l,v::vs,h=>by
  simp only[MT] at h
  have:=xu hI (T:=T) (a:=a) (v:=v) ⟨h.1,h.2.1,h.2.2.1⟩
  simp only[pc,MT]
  exact⟨this.1,this.2.1,this.2.2,tF hI Ts l vs h.2.2.2⟩
def Oj(P:Program)(C:Ctx)(act:Act)(o:Oper)(x:AV):Prop:=
 (∃v,(execOp act.eval o).run P C.w= .ok (.value v) C.w/\Rel C x v)\/
 (∃f args u,(execOp act.eval o).run P C.w= .ok (.enter f args) C.w/\x= .lit u/\bg u=true/\
  CallsIn Fence.wide 0 P f args C.w (fun e w'=>e= .returned u/\gP C.w w'))\/
 (∃f args,(execOp act.eval o).run P C.w= .ok (.enter f args) C.w/\refs x=[]/\G2 P f C args x)
theorem Gk{s:S}{l:List Operand}{a:AV}(h:mZ s l=[a]): ∃x,l=[x]/\ev s x=a:=by
 match l,h with
 |[x],h=>simp only[mZ,List.cons.injEq,and_true] at h;exact⟨x,rfl,h⟩
 |[],h=>simp[mZ] at h
 |_::_::_,h=>simp[mZ] at h
theorem zK{s:S}{l:List Operand}{a b:AV}(h:mZ s l=[a,b]): ∃x y,l=[x,y]/\ev s x=a/\ev s y=b:=by
 match l,h with
 |[x,y],h=>simp only[mZ,List.cons.injEq,and_true] at h;exact⟨x,y,rfl,h.1,h.2⟩
 |[],h=>simp[mZ] at h
 |[_],h=>simp[mZ] at h
 |_::_::_::_,h=>simp[mZ] at h
theorem pq{P:Program}{w:World}{α β:Type}{g:α->Sem β}{r:α->β}: ∀(l:List α),(∀x,x∈l->(g x).run P w= .ok (r x) w)->(l.mapM g).run P w= .ok (l.map r) w
 |[],_=>by simp
 |a::l,h=>by
  simp only[List.mapM_cons,Sem.run_bind,h a (by simp),Result.andThen_ok,pq l (fun x hx=>h x (by simp[hx])),Sem.run_pure,ac1]
theorem uI{P:Program}{w:World}{α β:Type}{g:α->Sem β}{r:α->β}(l:Array α)(h: ∀x,x∈l->(g x).run P w= .ok (r x) w):(l.mapM g).run P w= .ok (l.map r) w:=by
 rw[Array.mapM_eq_mapM_toList,Sem.run_map,pq l.toList (fun x hx=>h x (by simpa using hx))]
 simp only[Result.andThen_ok]
 rw[←Array.toList_map,Array.toArray_toList]
theorem jr{P:Program}{a:AV}{T:TypeId}(h:bC P a T): ∃d,P.underlying T=some d:=by
 cases hu:P.underlying T with
 |none=>cases a<;>simp[bC,hu] at h
 |some d=>exact⟨d,rfl⟩
theorem sB{P:Program}: ∀(l:List AV) (fs:List Field),dG P l fs->∀f,f∈fs->∃d,P.underlying f.type=some d
 |[],[],_,_,h=>by simp at h
 |[],_::_,h,_,_=>by simp[dG] at h
 |_::_,[],h,_,_=>by simp[dG] at h
 |a::l,g::fs,h,f,hf=>by
  simp only[dG] at h
  simp only[ac3] at hf
  rcases hf with rfl|hf
  ·exact jr h.1
  ·exact sB l fs h.2 f hf
theorem dq{P:Program}{w:World}{x:Sem Value}{v:Value}(h:x.run P w= .ok v w):(do pure (Next.value (←x)):Sem Next).run P w= .ok (.value v) w:=by
 simp[h]
theorem wm{C:Ctx}(hI:Inv C){T:TypeId}{a:AV}{u va:Value}(h:L1 C.P T a=some u)(hr:Rel C a va):(Instr.loadAt T va).run C.P C.w= .ok u C.w/\bg u=true:=by
 unfold L1 at h
 split at h
 ·rename_i g
  have hva:=aQ hr
  subst hva
  split at h
  ·rename_i cs ty fz hk
   split at h
   ·rename_i v hcs
    split at h
    ·rename_i hc
     simp only[aa4] at h
     subst h
     simp only[aa2,Bool.not_eq_true'] at hc
     obtain⟨⟨h1,h2⟩,h3⟩:=hc
     obtain⟨d,hd⟩:=Option.isSome_iff_exists.1 h3
     obtain⟨_,hh⟩:=hI.kept _ _ hk
     have hcell:C.w.cell? ⟨g,0,none⟩=some v:=by
      have:cs[0]? =some v:=by rw[←Array.getElem?_toList,hcs];rfl
      simp only[World.cell?,hh]
      exact this
     refine⟨?_,h1⟩
     simp only[Instr.loadAt,Instr.sureAddr,Sem.run_bind,Sem.run_pure,Result.andThen_ok,loadVar,kk hd,h2,Bool.false_eq_true,if_false]
     exact lr hcell
    ·cases h
   ·cases h
  ·cases h
 ·cases h
theorem Du{E:Env}(hE:pJ E.P)(hp:F5 E){C:Ctx}(hC:C.P=E.P)(hI:Inv C){s:S}{act:Act}(hs:dt C s act){o:Oper}{x:AV}(h:bK E s o.op=some (true,x)):Oj C.P C act o x:=by
 obtain⟨dst,op,type,pos,after,guard⟩:=o
 simp only at h
 have hE':pJ C.P:=hC▸hE
 unfold bK at h
 split at h
 ·
  rename_i y
  simp only[aa4,ab0,true_and] at h;subst h
  exact .inl ⟨_,rfl,bt hs y⟩
 ·rename_i y
  simp only[aa4,ab0,true_and] at h;subst h
  exact .inl ⟨_,rfl,bt hs y⟩
 ·
  rename_i T y
  split at h
  ·rename_i u hu
   simp only[aa4,ab0,true_and] at h;subst h
   rw[←hC] at hu
   exact .inl ⟨u,dq (wm hI hu (bt hs y)).1,a6 (wm hI hu (bt hs y)).2⟩
  ·rw[←hC,←hs.st] at h
   obtain⟨v,h1,h2⟩:=vI hI h (bt hs y)
   exact .inl ⟨v,dq h1,h2⟩
 ·
  rename_i T y
  rw[←hC] at h
  have hr:=bt hs y
  unfold CT at h
  split at h
  ·cases h
  ·cases h
  ·rename_i d hni hd
   have hrun: ∀v,(Instr.makeInterface T v).run C.P C.w= .ok (.iface T v) C.w:=fun v=>by
    simp only[Instr.makeInterface,Sem.run_bind,run_underlying hd,Result.andThen_ok]
    cases d<;>first|rfl|exact absurd rfl (hni _)
   split at h
   ·rename_i v hev
    cases h
    rw[hev] at hr
    have:=aQ hr
    exact .inl ⟨.iface T v,by rw[←this];exact dq (hrun _),a6 rfl⟩
   ·cases h
   ·rename_i hne1 hne2
    cases h
    refine .inl ⟨.iface T (act.eval y),dq (hrun _), .inl rfl, .inl rfl,?_⟩
    simp only[M]
    refine⟨act.eval y,rfl,hr.1.resolve_right hne2,hr.2.1.resolve_right hne2,hr.2.2⟩
 ·
  rename_i S T y
  rw[←hC] at h
  have hr:=bt hs y
  unfold Pu at h
  split at h
  ·rename_i d k k' n hS hT hev
   cases h
   rw[hev] at hr
   have:=aQ hr
   refine .inl ⟨.int k (k.wrap n),dq ?_,a6 rfl⟩
   rw[this]
   simp only[convert,Sem.run_bind,run_underlying hS,run_underlying hT,Result.andThen_ok]
   rfl
  ·cases h
 ·
  rename_i y
  have hr:=bt hs y
  split at h
  ·rename_i i k p off hev
   split at h
   ·rename_i hl
    simp only[aa4,ab0,true_and] at h;subst h
    rw[hev] at hr
    obtain⟨_,hp⟩:=mw hr
    obtain⟨b,o,hv⟩:=BQ (by rw[hs.st];exact hl) hp
    rw[hv] at hr
    exact .inl ⟨_,by simp[execOp,hv],hr⟩
   ·simp at h
  ·rename_i T a hev
   simp only[aa4,ab0,true_and] at h;subst h
   rw[hev] at hr
   obtain⟨b,o,hv,_⟩:=zk hr
   rw[hv] at hr
   exact .inl ⟨_,by simp[execOp,hv],hr⟩
  ·rename_i f caps hev
   simp only[aa4,ab0,true_and] at h;subst h
   rw[hev] at hr
   obtain⟨vs,hv,_⟩:=tJ hr
   rw[hv] at hr
   exact .inl ⟨_,by simp[execOp,hv],hr⟩
  ·simp at h
 ·
  rename_i op T y z T'
  split at h
  ·rename_i r hb
   simp only[aa4] at h
   subst h
   rw[←hC] at hb
   obtain⟨v,h1,h2,rfl⟩:=IC (ox:=y) hb (bt hs y)
   exact .inl ⟨v,dq h1,h2⟩
  ·split at h
   ·rename_i r hb
    simp only[aa4] at h
    subst h
    obtain⟨v,h1,h2⟩:=Ev (C:=C) (T:=T) (ox:=y) (oy:=z) (by first|exact hb|(rw[hC];exact hb)) (bt hs y) (bt hs z)
    exact .inl ⟨v,dq h1,h2⟩
   ·obtain⟨v,h1,h2⟩:=HM (C:=C) (T:=T) (ox:=y) (oy:=z) h (bt hs y) (bt hs z)
    exact .inl ⟨v,dq h1,h2⟩
 ·
  rename_i op T y
  have hr:=bt hs y
  split at h
  ·rename_i b hev
   simp only[aa4,ab0,true_and] at h;subst h
   rw[hev] at hr
   have:=aQ hr
   exact .inl ⟨.bool !b,by simp[execOp,this,Op.unary],a6 rfl⟩
  ·rename_i k n hev
   simp only[aa4,ab0,true_and] at h;subst h
   rw[hev] at hr
   have:=aQ hr
   exact .inl ⟨.int k (k.wrap (0 - n)),by simp[execOp,this,Op.unary,Op.intArith],a6 rfl⟩
  ·simp at h
 ·
  rename_i T y lo hi
  rw[←hC] at h
  obtain⟨v,h1,h2⟩:=BG hI hs h (bt hs y)
  exact .inl ⟨v,dq h1,h2⟩
 ·
  rename_i T y lo hi m
  rw[←hC] at h
  obtain⟨v,h1,h2⟩:=z7 hI hs h (bt hs y)
  exact .inl ⟨v,dq h1,h2⟩
 ·
  rename_i T y f
  rw[←hC,←hs.st] at h
  obtain⟨v,h1,h2⟩:=te hI h (bt hs y)
  exact .inl ⟨v,dq h1,h2⟩
 ·
  rename_i T y f
  rw[←hC] at h
  obtain⟨v,h1,h2⟩:=BD hI h (bt hs y)
  exact .inl ⟨v,dq h1,h2⟩
 ·
  rename_i T y i
  rw[←hC] at h
  obtain⟨v,h1,h2⟩:=sX hI hs.st h (bt hs y) (bt hs i)
  exact .inl ⟨v,dq h1,h2⟩
 ·
  rename_i T y i
  rw[←hC] at h
  obtain⟨v,h1,h2⟩:=A0 h (bt hs y) (bt hs i)
  exact .inl ⟨v,dq h1,h2⟩
 ·
  rename_i T m k ok
  rw[←hC] at h
  obtain⟨v,h1,h2⟩:=zP hI hs.st h (bt hs m) (bt hs k)
  exact .inl ⟨v,dq h1,h2⟩
 ·
  rename_i y i
  have hr:=bt hs y
  split at h
  ·rename_i l hev
   split at h
   ·rename_i hi
    simp only[aa4,ab0,true_and] at h;subst h
    rw[hev] at hr
    obtain⟨vs,hv,hm⟩:=Au hr
    obtain⟨v,h1,h2⟩:=EU l vs.toList i hm hi
    have h1':vs[i]? =some v:=by simpa using h1
    exact .inl ⟨v,by simp[execOp,hv,Instr.extract,h1'],h2⟩
   ·simp at h
  ·simp at h
 ·
  rename_i f first caps
  split at h
  ·rename_i hf
   simp only[aa4,ab0,true_and] at h;subst h
   have hf':first= #[]:=by simpa using hf
   subst hf'
   refine .inl ⟨.func (.func f) #[] (caps.map act.eval),by simp[execOp,Instr.makeFunc], .inl rfl, .inl rfl,?_⟩
   simp only[M]
   exact⟨caps.map act.eval,by simp[Value.cells],by simpa using tH hs caps.toList⟩
  ·simp at h
 ·
  rename_i T parts
  split at h
  ·rename_i l hz
   split at h
   ·rename_i a hb
    simp only[aa4,ab0,true_and] at h;subst h
    rw[←hC] at hz hb
    obtain⟨i,zv,hi,hzv,hrz,_,hpz⟩:=dQ hI hz
    obtain⟨cs,rfl,hsz,hm⟩:=GK hrz
    simp only[bC] at hpz
    obtain⟨fs,⟨hfs,_⟩,hpf⟩:=hpz
    have hplace: ∀(i:Nat) (fd:Field),fs[i]? =some fd->(fun j=>((fs.map fun f=>(f.offset,C.P.cellsOf f.type)))[j]?) i=some (fd.offset,C.P.cellsOf fd.type):=by
     intro i fd h;simp[h]
    obtain⟨cells',h1,h2⟩:=ue hI hs hfs hplace parts.toList l cs _ hb hm hsz
    have hmap:=uI (P:=C.P) (w:=C.w) (g:=fun f:Field=>do pure (f.offset,←sizeOf f.type)) (r:=fun f=>(f.offset,C.P.cellsOf f.type)) fs (fun f hf=>by
     obtain⟨d,hd⟩:=sB _ _ hpf f (by simpa using hf)
     simp[run_sizeOf hd])
    have hparts:(parts.map fun x=>(x.1,act.eval x.2)).toList=parts.toList.map fun p=>(p.1,act.eval p.2):=by simp
    refine .inl ⟨.agg cells',dq ?_,h2⟩
    unfold Instr.build
    simp only[Sem.run_bind,jI hi hzv,Result.andThen_ok,run_underlying hfs,Value.cells]
    rw[hmap]
    simp only[Result.andThen_ok]
    have h1':Instr.fill (fun x=>(Array.map (fun f:Field=>(f.offset,C.P.cellsOf f.type)) fs)[x]?) cs (Array.map (fun x:Nat×Operand=>(x.1,act.eval x.2)) parts).toList=some cells':=by rw[hparts];exact h1
    simp only[h1',Sem.run_pure]
   ·simp at h
  ·simp at h
 ·
  rename_i args ts
  split at h
  ·rename_i a T tl hev hts
   split at h
   ·rename_i y hl
    simp only[aa4,ab0,true_and] at h;subst h
    obtain⟨z,hz,rfl⟩:=Gk hev
    have ha:args= #[z]:=by rw[←Array.toArray_toList (xs:=args),hz]
    subst ha
    have hts':ts[0]? =some T:=by rw[←Array.getElem?_toList,hts];rfl
    rw[←hC,←hs.st] at hl
    obtain⟨v,h1,h2⟩:=HP hI (ty:=type) hts' hl (bt hs z)
    exact .inl ⟨v,by simp[execOp,resolve,invoke,builtin,h1],h2⟩
   ·simp at h
  ·simp at h
 ·
  rename_i args ts
  split at h
  ·rename_i k n k' m hev
   split at h
   ·rename_i hk
    subst hk
    simp only[aa4,ab0,true_and] at h;subst h
    obtain⟨y,z,hz,h1,h2⟩:=zK hev
    have ha:args= #[y,z]:=by rw[←Array.toArray_toList (xs:=args),hz]
    subst ha
    have r1:=bt hs y;rw[h1] at r1
    have r2:=bt hs z;rw[h2] at r2
    have e1:=aQ r1
    have e2:=aQ r2
    exact .inl ⟨_,by simp[execOp,resolve,invoke,builtin,Builtin.min_,Builtin.min2,e1,e2],a6 rfl⟩
   ·simp at h
  ·simp at h
 ·
  rename_i args ts
  split at h
  ·rename_i k n k' m hev
   split at h
   ·rename_i hk
    subst hk
    simp only[aa4,ab0,true_and] at h;subst h
    obtain⟨y,z,hz,h1,h2⟩:=zK hev
    have ha:args= #[y,z]:=by rw[←Array.toArray_toList (xs:=args),hz]
    subst ha
    have r1:=bt hs y;rw[h1] at r1
    have r2:=bt hs z;rw[h2] at r2
    have e1:=aQ r1
    have e2:=aQ r2
    exact .inl ⟨_,by simp[execOp,resolve,invoke,builtin,Builtin.max_,Builtin.max2,e1,e2],a6 rfl⟩
   ·simp at h
  ·simp at h
 ·
  rename_i f args ts
  split at h
  ·rename_i as hpa
   rw[←hs.st] at hpa
   have hmt:=sH hI _ as _ hpa (tH hs args.toList)
   have hmt2:=tF (xm hI) (ku E.P f) as _ hmt
   rw[show C.still.P=E.P from hC] at hmt2
   obtain⟨fn,hf,hb,⟨u,rfl,hu,hcall⟩|⟨hl,hx,hcall⟩⟩:=hp f _ x h
   ·have hrun:=hcall C.still (args.map act.eval) hC (xm hI) (by simpa using hmt2)
    rw[←hC] at hf hrun
    refine .inr (.inl ⟨f,args.map act.eval,u,?_,rfl,hu,hrun⟩)
    simp[execOp,resolve,Deferred.ofValue,invoke,Act.eval,j9 hE' hf hb]
   ·have hmt3:=zm (C':=C) _ _ hl hmt2
    have hrun:=hcall C (args.map act.eval) hC hI (by simpa using hmt3)
    rw[←hC] at hf hrun
    refine .inr (.inr ⟨f,args.map act.eval,?_,hx,hrun⟩)
    simp[execOp,resolve,Deferred.ofValue,invoke,Act.eval,j9 hE' hf hb]
  ·simp at h
 ·simp at h
end Go.Dn
