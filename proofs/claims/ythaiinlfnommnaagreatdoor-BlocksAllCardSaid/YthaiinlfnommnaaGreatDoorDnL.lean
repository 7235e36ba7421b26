import Derived.Test.YthaiinlfnommnaaGreatDoorDnK
namespace Go.Dn
open Go
structure pX(P:Program):Prop where
 lay:eW P
 names: ∀(f:Nat) (fn:Func),P.funcs[f]? =some fn->(fn.name== "runtime.NumGoroutine")=false
 mixed:P.follows .mixedOrders=true
structure ir(w w':World):Prop where
 size:w.heap.size<=w'.heap.size
 os:w'.os=w.os
 tape:w'.tape=w.tape
 output:w'.output=w.output
 heap: ∀b,b<w.heap.size->w'.heap[b]? =w.heap[b]?
theorem ir.refl(w:World):ir w w:=⟨Nat.le_refl _,rfl,rfl,rfl,fun _ _=>rfl⟩
theorem ir.trans{a b c:World}(h:ir a b)(k:ir b c):ir a c:=
 ⟨Nat.le_trans h.size k.size,k.os.trans h.os,k.tape.trans h.tape,k.output.trans h.output,fun i hi=>(k.heap i (by have:=h.size;omega)).trans (h.heap i hi)⟩
def vE:List AV->Bool
 |[]=>true
 | .lit v::l=>bm v&&vE l
 |_::_=>false
def Ctx.bare(C:Ctx):Ctx:={C with X:=fun b=>(C.P.kept b).isSome=true,st:=[],ι:=fun _=>⟨0,0,true⟩,cls:=id}
theorem LI{C:Ctx}(hI:Inv C):Inv C.bare:=by
 refine⟨hI.lay,fun i hi=>by simp[Ctx.bare] at hi,fun i j hi=>by simp[Ctx.bare] at hi,fun b hb=>?_,fun i hi=>by simp[Ctx.bare] at hi,fun b hb=>absurd rfl hb,fun b o h=>?_⟩
 ·obtain⟨o,h⟩:=Option.isSome_iff_exists.1 hb
  exact hI.xs b (hI.kept b o h).1
 ·exact⟨by show(C.P.kept b).isSome=true;rw[show C.P.kept b=some o from h];rfl,(hI.kept b o h).2⟩
theorem zt{C C':Ctx}: ∀(l:List AV) (vs:List Value),vE l=true->MT C l vs->MT C' l vs
 |[],vs,_,h=>by simpa[MT] using h
 | .lit u::l,[],_,h=>by simp[MT] at h
 | .lit u::l,v::vs,hl,h=>by
  simp only[vE,aa3] at hl
  simp only[MT,M] at h⊢
  exact⟨h.1,h.2.1,h.2.2.1,zt l vs hl.2 h.2.2.2⟩
 | .cP::_,_,hl,_| .ad _ _::_,_,hl,_| .agg _::_,_,hl,_| .bp _::_,_,hl,_| .ar _ _ _::_,_,hl,_| .ptr _ _ _ _::_,_,hl,_| .jX _ _::_,_,hl,_| .mp _::_,_,hl,_
 | .cK _::_,_,hl,_| .kx _ _::_,_,hl,_| .bQ _ _::_,_,hl,_| .jq _ _::_,_,hl,_| .jJ _ _ _ _::_,_,hl,_=>by simp[vE] at hl
def GN(P:Program)(f:FuncId)(C:Ctx)(vs:Array Value)(x:AV):Prop:=
 CallsIn Fence.wide 0 P f vs C.w (fun e w'=>∃v C1,e= .returned v/\C1.w=w'/\C1.P=C.P/\Inv C1/\Rel C1 x v/\Ext 0 C.bare C1)
def FF(E:Env):Prop:=
 ∀ f as x,E.il f as=some (true,x)->∃fn,E.P.funcs[f]? =some fn/\fn.body.isSome=true/\
  ((∃u,x= .lit u/\bm u=true/\
   ∀(C:Ctx) (vs:Array Value),C.P=E.P->Inv C->MT C as vs.toList->CallsIn Fence.wide 0 E.P f vs C.w (fun e w'=>e= .returned u/\ir C.w w'))\/
   (vE as=true/\refs x=[]/\∀(C:Ctx) (vs:Array Value),C.P=E.P->Inv C->MT C as vs.toList->GN E.P f C vs x))
theorem kg{P:Program}(hP:pX P){w:World}{f:FuncId}{fn:Func}(hf:P.funcs[f]? =some fn)(hb:fn.body.isSome=true)(args:Array Value):
  (callFunc f args).run P w= .ok (.enter f args) w:=by
 have hn:=hP.names f fn hf
 have hn': ¬ fn.name= "runtime.NumGoroutine" :=by simpa using hn
 have hb': ¬ fn.body=none:=by intro e;simp[e] at hb
 simp[callFunc,hf,hn',hb']
theorem ub{C:Ctx}{s:S}{a:Act}(hs:dv C s a): ∀(l:List Operand),MT C (nt s l) (l.map a.eval)
 |[]=>by simp[nt,MT]
 |x::l=>by
  simp only[nt,ac2,MT]
  have:=bx hs x
  exact⟨this.1,this.2.1,this.2.2,ub hs l⟩
theorem HO{C:Ctx}(hI:Inv C){a b:AV}{v:Value}(h:rr C.st a=some b)(hr:Rel C a v):Rel C.still b v:=by
 have Wl:cr C.st a=some b->Rel C.still b v:=fun h1=>by
  obtain⟨g1,g2,g3,g4⟩:=iL a b h1
  have hj:a≠ .cP:=by intro e;subst e;simp[cr] at h1
  exact⟨.inl (by rw[g1];exact hr.1.resolve_right hj), .inl (by rw[g2];exact hr.2.1.resolve_right hj),ui hI (nD hI) rfl a b _ _ h1 (fun i _ hi hl=>NT hI hi hl) hr.2.2⟩
 unfold rr at h
 split at h
 ·rename_i i k m
  split at h
  ·rename_i T E ls pd hst
   simp only[aa5] at h;subst h
   obtain⟨hi,hs⟩:=gP hr
   have hsub:=(hs.2 _ _ _ _ hst).2
   have hob:=hI.obj i hi
   rw[hst] at hob
   obtain⟨_,_,hE,hty,_⟩:=hob
   obtain⟨p,cap,rfl,h1,h2,h3,h4⟩:=Bt hE (hty k) hsub
   refine⟨.inl rfl, .inl rfl,?_⟩
   simp only[M]
   refine⟨h3,p,cap,by rw[h2];rfl,by rw[h2];exact h1,fun hne=>?_⟩
   obtain⟨b,rfl,hlt,hm⟩:=h4 (by intro e;subst e;simp at hne)
   exact⟨b,0,rfl,hlt,fQ (nD hI) hI.lay _ E _ _ _ _ h3 (fun _ _=>rfl) hm⟩
  ·exact Wl h
 ·exact Wl h
theorem sU{C:Ctx}(hI:Inv C): ∀(l m:List AV) (vs:List Value),fE C.st l=some m->MT C l vs->MT C.still m vs
 |[],m,vs,h,hm=>by simp only[fE,aa5] at h;subst h;simpa[MT] using hm
 |_::_,_,[],_,hm=>by simp[MT] at hm
 | a::l,m,v::vs,h,hm=>by
  simp only[fE] at h
  split at h
  ·rename_i b m' h1 h2
   simp only[aa5] at h;subst h
   simp only[MT] at hm⊢
   have:=HO hI h1 ⟨hm.1,hm.2.1,hm.2.2.1⟩
   exact⟨this.1,this.2.1,this.2.2,sU hI l m' vs h2 hm.2.2.2⟩
  ·simp at h
theorem Dy{C:Ctx}: ∀(l:List AV) (vs:List Value) (i:Nat),MT C l vs->i<l.length->∃v,vs[i]? =some v/\Rel C (nth l i) v
 |[],_,_,_,h=>by simp at h
 |_::_,[],_,h,_=>by simp[MT] at h
 |a::l,v::vs,0,h,_=>by simp only[MT] at h;exact⟨v,rfl,h.1,h.2.1,h.2.2.1⟩
 |a::l,v::vs,i+1,h,hi=>by
  simp only[MT] at h
  simpa[nth] using Dy l vs i h.2.2.2 (by simpa using hi)
theorem oU{C:Ctx}: ∀(l:List AV) (vs:List Value),MT C l vs->vs.length=l.length
 |[],vs,h=>by simp only[MT] at h;simp[h]
 |_::_,[],h=>by simp[MT] at h
 |a::l,v::vs,h=>by simp only[MT] at h;simp[oU l vs h.2.2.2]
theorem Gu{C:Ctx}{i lo n:Nat}{v:Value}(h:lF C i lo n v)(hs:O0 (az C.st i)=true):(v= .slice none 0 0/\n=0)\/ ∃q cap,v= .slice (some q) n cap:=by
 have row: ∀T xs,ia (az C.st i)=some (T,xs)->(v= .slice none 0 0/\n=0)\/ ∃q cap,v= .slice (some q) n cap:=fun T xs hel=>by
  rcases(h.1 T xs hel).2 with⟨_,rfl,_,rfl⟩|⟨_,cap,q,rfl,_⟩
  ·exact .inl ⟨rfl,rfl⟩
  ·exact .inr ⟨_,_,rfl⟩
 cases hx:az C.st i<;>rw[hx] at hs<;>simp[O0] at hs
 ·exact row _ _ (by rw[hx];rfl)
 ·exact row _ _ (by rw[hx];rfl)
 ·have h2:=h.2 _ _ _ _ hx
  cases lo with
  |zero=>obtain⟨_,cap,rfl,_⟩:=h2;exact .inr ⟨_,_,rfl⟩
  |succ k=>
   rcases h2.2.2 with⟨rfl,rfl⟩|⟨b,cap,c,rfl,_⟩
   ·exact .inl ⟨rfl,rfl⟩
   ·exact .inr ⟨_,_,rfl⟩
theorem H6{C:Ctx}(hI:Inv C){T ty:TypeId}{ts:Array TypeId}(hts:ts[0]? =some T){a x:AV}{va:Value}(h:zk C.P C.st T a=some x)(hr:Rel C a va):
  ∃v,(Builtin.len_ ts ty #[va]).run C.P C.w= .ok v C.w/\Rel C x v:=by
 unfold zk at h
 split at h
 ·rename_i hT
  simp only[aa5] at h;subst h
  have:=aV hr;subst this
  exact⟨_,by simp[Builtin.len_,hts,run_underlying hT,goInt],bh rfl⟩
 ·rename_i hT
  simp only[aa5] at h;subst h
  have:=aV hr;subst this
  exact⟨_,by simp[Builtin.len_,hts,run_underlying hT,goInt],bh rfl⟩
 ·rename_i i hT
  split at h
  ·rename_i K V es hst
   simp only[aa5] at h;subst h
   obtain⟨hi,hmp⟩:=rN hr
   have:=hmp K V es hst;subst this
   obtain⟨entries,clock,hh,hent,hmap⟩:=mH hI hi hst
   have hl: ∀(es:List (Value×AV)) (ents:List MapEntry),ct C V es ents->es.length=ents.length:=by
    intro es;induction es with
    |nil=>intro ents h;cases ents<;>simp_all[ct]
    |cons x es ih=>intro ents h;cases ents<;>simp_all[ct];exact ih _ h.2.2.2
   have:=hl es _ hent
   refine⟨.int .i64 entries.size,by simp[Builtin.len_,hts,run_underlying hT,run_getObj_map hh,goInt],?_⟩
   rw[this];simpa using bh rfl
  ·simp at h
 ·rename_i hT
  simp only[aa5] at h;subst h
  have:=aV hr;subst this
  exact⟨_,by simp[Builtin.len_,hts,run_underlying hT,goInt],bh rfl⟩
 ·rename_i i lo n hT
  split at h
  ·rename_i hel
   simp only[aa5] at h;subst h
   rcases Gu (gP hr).2 hel with⟨rfl,rfl⟩|⟨q,cap,rfl⟩
   ·exact⟨_,by simp[Builtin.len_,hts,run_underlying hT,goInt],bh rfl⟩
   ·exact⟨_,by simp[Builtin.len_,hts,run_underlying hT,goInt],bh rfl⟩
  ·simp at h
 ·rename_i K V ks vs hT
  simp only[aa5] at h;subst h
  rcases z7 hr with⟨rfl,rfl,rfl⟩|⟨b,ents,clock,rfl,_,hh,hmap,rfl,hp,hmt⟩
  ·exact⟨_,by simp[Builtin.len_,hts,run_underlying hT,goInt],bh rfl⟩
  ·refine⟨.int .i64 ents.size,by simp[Builtin.len_,hts,run_underlying hT,run_getObj_map hh,goInt],?_⟩
   simpa using bh rfl
 ·rename_i T' l hT
  simp only[aa5] at h;subst h
  obtain⟨_,p,cap,rfl,_⟩:=qF hr
  exact⟨_,by simp[Builtin.len_,hts,run_underlying hT,goInt],bh rfl⟩
 ·simp at h
theorem yd{C:Ctx}(hI:Inv C){T:TypeId}{a:AV}{v:Value}(hr:Rel C a v):Rel C (FR C.P T a) v:=by
 unfold FR
 split
 ·split
  ·split
   ·rename_i h;exact(eP hI (jg _ _ _ _ h hr.2.2) hr).1
   ·exact hr
  ·exact hr
 ·split
  ·split
   ·rename_i h;exact(eP hI (jg _ _ _ _ h hr.2.2) hr).1
   ·exact hr
  ·exact hr
 ·exact hr
theorem tL{C:Ctx}(hI:Inv C): ∀(Ts:List TypeId) (l:List AV) (vs:List Value),MT C l vs->MT C (pB C.P Ts l) vs
 |[],l,vs,h=>by cases l<;>exact h
 |_::_,[],vs,h=>by simpa only[pB] using h
 |T::Ts,a::l,[],h=>by simp[MT] at h
 |T::Ts,a::l,v::vs,h=>by
  simp only[MT] at h
  have:=yd hI (T:=T) (a:=a) (v:=v) ⟨h.1,h.2.1,h.2.2.1⟩
  simp only[pB,MT]
  exact⟨this.1,this.2.1,this.2.2,tL hI Ts l vs h.2.2.2⟩
def Nn(P:Program)(C:Ctx)(act:Act)(o:Oper)(x:AV):Prop:=
 (∃v,(execOp act.eval o).run P C.w= .ok (.value v) C.w/\Rel C x v)\/
 (∃f args u,(execOp act.eval o).run P C.w= .ok (.enter f args) C.w/\x= .lit u/\bm u=true/\
  CallsIn Fence.wide 0 P f args C.w (fun e w'=>e= .returned u/\ir C.w w'))\/
 (∃f args,(execOp act.eval o).run P C.w= .ok (.enter f args) C.w/\refs x=[]/\GN P f C args x)
theorem Hi{s:S}{l:List Operand}{a:AV}(h:nt s l=[a]): ∃x,l=[x]/\ev s x=a:=by
 match l,h with
 |[x],h=>simp only[nt,List.cons.injEq,and_true] at h;exact⟨x,rfl,h⟩
 |[],h=>simp[nt] at h
 |_::_::_,h=>simp[nt] at h
theorem AO{s:S}{l:List Operand}{a b:AV}(h:nt s l=[a,b]): ∃x y,l=[x,y]/\ev s x=a/\ev s y=b:=by
 match l,h with
 |[x,y],h=>simp only[nt,List.cons.injEq,and_true] at h;exact⟨x,y,rfl,h.1,h.2⟩
 |[],h=>simp[nt] at h
 |[_],h=>simp[nt] at h
 |_::_::_::_,h=>simp[nt] at h
theorem pk{P:Program}{w:World}{α β:Type}{g:α->Sem β}{r:α->β}: ∀(l:List α),(∀x,x∈l->(g x).run P w= .ok (r x) w)->(l.mapM g).run P w= .ok (l.map r) w
 |[],_=>by simp
 |a::l,h=>by
  simp only[List.mapM_cons,Sem.run_bind,h a (by simp),Result.andThen_ok,pk l (fun x hx=>h x (by simp[hx])),Sem.run_pure,ac2]
theorem wJ{P:Program}{w:World}{α β:Type}{g:α->Sem β}{r:α->β}(l:Array α)(h: ∀x,x∈l->(g x).run P w= .ok (r x) w):(l.mapM g).run P w= .ok (l.map r) w:=by
 rw[Array.mapM_eq_mapM_toList,Sem.run_map,pk l.toList (fun x hx=>h x (by simpa using hx))]
 simp only[Result.andThen_ok]
 rw[←Array.toList_map,Array.toArray_toList]
theorem jy{P:Program}{a:AV}{T:TypeId}(h:bG P a T): ∃d,P.underlying T=some d:=by
 cases hu:P.underlying T with
 |none=>cases a<;>simp[bG,hu] at h
 |some d=>exact⟨d,rfl⟩
theorem tn{P:Program}: ∀(l:List AV) (fs:List Field),dI P l fs->∀f,f∈fs->∃d,P.underlying f.type=some d
 |[],[],_,_,h=>by simp at h
 |[],_::_,h,_,_=>by simp[dI] at h
 |_::_,[],h,_,_=>by simp[dI] at h
 |a::l,g::fs,h,f,hf=>by
  simp only[dI] at h
  simp only[ac4] at hf
  rcases hf with rfl|hf
  ·exact jy h.1
  ·exact tn l fs h.2 f hf
theorem du{P:Program}{w:World}{x:Sem Value}{v:Value}(h:x.run P w= .ok v w):(do pure (Next.value (←x)):Sem Next).run P w= .ok (.value v) w:=by
 simp[h]
theorem uH{C:Ctx}(hI:Inv C){T:TypeId}{a:AV}{u va:Value}(h:La C.P T a=some u)(hr:Rel C a va):(Instr.loadAt T va).run C.P C.w= .ok u C.w/\bm u=true:=by
 unfold La at h
 split at h
 ·rename_i g
  have hva:=aV hr
  subst hva
  split at h
  ·rename_i cs ty fz hk
   split at h
   ·rename_i v hcs
    split at h
    ·rename_i hc
     simp only[aa5] at h
     subst h
     simp only[aa3,Bool.not_eq_true'] at hc
     obtain⟨⟨h1,h2⟩,h3⟩:=hc
     obtain⟨d,hd⟩:=Option.isSome_iff_exists.1 h3
     obtain⟨_,hh⟩:=hI.kept _ _ hk
     have hcell:C.w.cell? ⟨g,0,none⟩=some v:=by
      have:cs[0]? =some v:=by rw[←Array.getElem?_toList,hcs];rfl
      simp only[World.cell?,hh]
      exact this
     refine⟨?_,h1⟩
     simp only[Instr.loadAt,Instr.sureAddr,Sem.run_bind,Sem.run_pure,Result.andThen_ok,loadVar,kz hd,h2,Bool.false_eq_true,if_false]
     exact lC hcell
    ·cases h
   ·cases h
  ·cases h
 ·cases h
theorem Fq{E:Env}(hE:pX E.P)(hp:FF E){C:Ctx}(hC:C.P=E.P)(hI:Inv C){s:S}{act:Act}(hs:dv C s act){o:Oper}{x:AV}(h:bO E s o.op=some (true,x)):Nn C.P C act o x:=by
 obtain⟨dst,op,type,pos,after,guard⟩:=o
 simp only at h
 have hE':pX C.P:=hC▸hE
 unfold bO at h
 split at h
 ·
  rename_i y
  simp only[aa5,ab1,true_and] at h;subst h
  exact .inl ⟨_,rfl,bx hs y⟩
 ·rename_i y
  simp only[aa5,ab1,true_and] at h;subst h
  exact .inl ⟨_,rfl,bx hs y⟩
 ·
  rename_i T y
  split at h
  ·rename_i u hu
   simp only[aa5,ab1,true_and] at h;subst h
   rw[←hC] at hu
   exact .inl ⟨u,du (uH hI hu (bx hs y)).1,bh (uH hI hu (bx hs y)).2⟩
  ·rw[←hC,←hs.st] at h
   obtain⟨v,h1,h2⟩:=xe hI h (bx hs y)
   exact .inl ⟨v,du h1,h2⟩
 ·
  rename_i T y
  rw[←hC] at h
  have hr:=bx hs y
  unfold CM at h
  split at h
  ·cases h
  ·cases h
  ·rename_i d hni hd
   have hrun: ∀v,(Instr.makeInterface T v).run C.P C.w= .ok (.iface T v) C.w:=fun v=>by
    simp only[Instr.makeInterface,Sem.run_bind,run_underlying hd,Result.andThen_ok]
    cases d<;>first|rfl|exact absurd rfl (hni _)
   split at h
   ·rename_i v hev
    cases h
    rw[hev] at hr
    have:=aV hr
    exact .inl ⟨.iface T v,by rw[←this];exact du (hrun _),bh rfl⟩
   ·cases h
   ·rename_i hne1 hne2
    cases h
    refine .inl ⟨.iface T (act.eval y),du (hrun _), .inl rfl, .inl rfl,?_⟩
    simp only[M]
    refine⟨act.eval y,rfl,hr.1.resolve_right hne2,hr.2.1.resolve_right hne2,hr.2.2⟩
 ·
  rename_i S T y
  rw[←hC] at h
  have hr:=bx hs y
  unfold P6 at h
  split at h
  ·rename_i d k k' n hS hT hev
   cases h
   rw[hev] at hr
   have:=aV hr
   refine .inl ⟨.int k (k.wrap n),du ?_,bh rfl⟩
   rw[this]
   simp only[convert,Sem.run_bind,run_underlying hS,run_underlying hT,Result.andThen_ok]
   rfl
  ·cases h
 ·
  rename_i y
  have hr:=bx hs y
  split at h
  ·rename_i i k p off hev
   split at h
   ·rename_i hl
    simp only[aa5,ab1,true_and] at h;subst h
    rw[hev] at hr
    obtain⟨_,hp⟩:=mQ hr
    obtain⟨b,o,hv⟩:=Cz (by rw[hs.st];exact hl) hp
    rw[hv] at hr
    exact .inl ⟨_,by simp[execOp,hv],hr⟩
   ·simp at h
  ·rename_i T a hev
   simp only[aa5,ab1,true_and] at h;subst h
   rw[hev] at hr
   obtain⟨b,o,hv,_⟩:=zL hr
   rw[hv] at hr
   exact .inl ⟨_,by simp[execOp,hv],hr⟩
  ·rename_i f caps hev
   simp only[aa5,ab1,true_and] at h;subst h
   rw[hev] at hr
   obtain⟨vs,hv,_⟩:=tM hr
   rw[hv] at hr
   exact .inl ⟨_,by simp[execOp,hv],hr⟩
  ·simp at h
 ·
  rename_i op T y z T'
  split at h
  ·rename_i r hb
   simp only[aa5] at h
   subst h
   rw[←hC] at hb
   obtain⟨v,h1,h2,rfl⟩:=Ih (ox:=y) hb (bx hs y)
   exact .inl ⟨v,du h1,h2⟩
  ·split at h
   ·rename_i r hb
    simp only[aa5] at h
    subst h
    obtain⟨v,h1,h2⟩:=Ei (C:=C) (T:=T) (ox:=y) (oy:=z) (by first|exact hb|(rw[hC];exact hb)) (bx hs y) (bx hs z)
    exact .inl ⟨v,du h1,h2⟩
   ·obtain⟨v,h1,h2⟩:=Jh (C:=C) (T:=T) (ox:=y) (oy:=z) h (bx hs y) (bx hs z)
    exact .inl ⟨v,du h1,h2⟩
 ·
  rename_i op T y
  have hr:=bx hs y
  split at h
  ·rename_i b hev
   simp only[aa5,ab1,true_and] at h;subst h
   rw[hev] at hr
   have:=aV hr
   exact .inl ⟨.bool !b,by simp[execOp,this,Op.unary],bh rfl⟩
  ·rename_i k n hev
   simp only[aa5,ab1,true_and] at h;subst h
   rw[hev] at hr
   have:=aV hr
   exact .inl ⟨.int k (k.wrap (0 - n)),by simp[execOp,this,Op.unary,Op.intArith],bh rfl⟩
  ·simp at h
 ·
  rename_i T y lo hi
  rw[←hC] at h
  obtain⟨v,h1,h2⟩:=Ba hI hs h (bx hs y)
  exact .inl ⟨v,du h1,h2⟩
 ·
  rename_i T y lo hi m
  rw[←hC] at h
  obtain⟨v,h1,h2⟩:=zl hI hs h (bx hs y)
  exact .inl ⟨v,du h1,h2⟩
 ·
  rename_i T y f
  rw[←hC,←hs.st] at h
  obtain⟨v,h1,h2⟩:=tz hI h (bx hs y)
  exact .inl ⟨v,du h1,h2⟩
 ·
  rename_i T y f
  rw[←hC] at h
  obtain⟨v,h1,h2⟩:=BQ hI h (bx hs y)
  exact .inl ⟨v,du h1,h2⟩
 ·
  rename_i T y i
  rw[←hC] at h
  obtain⟨v,h1,h2⟩:=tB hI hs.st h (bx hs y) (bx hs i)
  exact .inl ⟨v,du h1,h2⟩
 ·
  rename_i T y i
  rw[←hC] at h
  obtain⟨v,h1,h2⟩:=BT h (bx hs y) (bx hs i)
  exact .inl ⟨v,du h1,h2⟩
 ·
  rename_i T m k ok
  rw[←hC] at h
  obtain⟨v,h1,h2⟩:=zH hI hs.st h (bx hs m) (bx hs k)
  exact .inl ⟨v,du h1,h2⟩
 ·
  rename_i y i
  have hr:=bx hs y
  split at h
  ·rename_i l hev
   split at h
   ·rename_i hi
    simp only[aa5,ab1,true_and] at h;subst h
    rw[hev] at hr
    obtain⟨vs,hv,hm⟩:=Ag hr
    obtain⟨v,h1,h2⟩:=Dy l vs.toList i hm hi
    have h1':vs[i]? =some v:=by simpa using h1
    exact .inl ⟨v,by simp[execOp,hv,Instr.extract,h1'],h2⟩
   ·simp at h
  ·simp at h
 ·
  rename_i f first caps
  split at h
  ·rename_i hf
   simp only[aa5,ab1,true_and] at h;subst h
   have hf':first= #[]:=by simpa using hf
   subst hf'
   refine .inl ⟨.func (.func f) #[] (caps.map act.eval),by simp[execOp,Instr.makeFunc], .inl rfl, .inl rfl,?_⟩
   simp only[M]
   exact⟨caps.map act.eval,by simp[Value.cells],by simpa using ub hs caps.toList⟩
  ·simp at h
 ·
  rename_i T parts
  split at h
  ·rename_i l hz
   split at h
   ·rename_i a hb
    simp only[aa5,ab1,true_and] at h;subst h
    rw[←hC] at hz hb
    obtain⟨i,zv,hi,hzv,hrz,_,hpz⟩:=dU hI hz
    obtain⟨cs,rfl,hsz,hm⟩:=GR hrz
    simp only[bG] at hpz
    obtain⟨fs,⟨hfs,_⟩,hpf⟩:=hpz
    have hplace: ∀(i:Nat) (fd:Field),fs[i]? =some fd->(fun j=>((fs.map fun f=>(f.offset,C.P.cellsOf f.type)))[j]?) i=some (fd.offset,C.P.cellsOf fd.type):=by
     intro i fd h;simp[h]
    obtain⟨cells',h1,h2⟩:=vD hI hs hfs hplace parts.toList l cs _ hb hm hsz
    have hmap:=wJ (P:=C.P) (w:=C.w) (g:=fun f:Field=>do pure (f.offset,←sizeOf f.type)) (r:=fun f=>(f.offset,C.P.cellsOf f.type)) fs (fun f hf=>by
     obtain⟨d,hd⟩:=tn _ _ hpf f (by simpa using hf)
     simp[run_sizeOf hd])
    have hparts:(parts.map fun x=>(x.1,act.eval x.2)).toList=parts.toList.map fun p=>(p.1,act.eval p.2):=by simp
    refine .inl ⟨.agg cells',du ?_,h2⟩
    unfold Instr.build
    simp only[Sem.run_bind,jK hi hzv,Result.andThen_ok,run_underlying hfs,Value.cells]
    rw[hmap]
    simp only[Result.andThen_ok]
    have h1':Instr.fill (fun x=>(Array.map (fun f:Field=>(f.offset,C.P.cellsOf f.type)) fs)[x]?) cs (Array.map (fun x:Nat×Operand=>(x.1,act.eval x.2)) parts).toList=some cells':=by rw[hparts];exact h1
    simp only[h1',Sem.run_pure]
   ·simp at h
  ·simp at h
 ·
  rename_i args ts
  split at h
  ·rename_i a T tl hev hts
   split at h
   ·rename_i y hl
    simp only[aa5,ab1,true_and] at h;subst h
    obtain⟨z,hz,rfl⟩:=Hi hev
    have ha:args= #[z]:=by rw[←Array.toArray_toList (xs:=args),hz]
    subst ha
    have hts':ts[0]? =some T:=by rw[←Array.getElem?_toList,hts];rfl
    rw[←hC,←hs.st] at hl
    obtain⟨v,h1,h2⟩:=H6 hI (ty:=type) hts' hl (bx hs z)
    exact .inl ⟨v,by simp[execOp,resolve,invoke,builtin,h1],h2⟩
   ·simp at h
  ·simp at h
 ·
  rename_i args ts
  split at h
  ·rename_i k n k' m hev
   split at h
   ·rename_i hk
    subst hk
    simp only[aa5,ab1,true_and] at h;subst h
    obtain⟨y,z,hz,h1,h2⟩:=AO hev
    have ha:args= #[y,z]:=by rw[←Array.toArray_toList (xs:=args),hz]
    subst ha
    have r1:=bx hs y;rw[h1] at r1
    have r2:=bx hs z;rw[h2] at r2
    have e1:=aV r1
    have e2:=aV r2
    exact .inl ⟨_,by simp[execOp,resolve,invoke,builtin,Builtin.min_,Builtin.min2,e1,e2],bh rfl⟩
   ·simp at h
  ·simp at h
 ·
  rename_i args ts
  split at h
  ·rename_i k n k' m hev
   split at h
   ·rename_i hk
    subst hk
    simp only[aa5,ab1,true_and] at h;subst h
    obtain⟨y,z,hz,h1,h2⟩:=AO hev
    have ha:args= #[y,z]:=by rw[←Array.toArray_toList (xs:=args),hz]
    subst ha
    have r1:=bx hs y;rw[h1] at r1
    have r2:=bx hs z;rw[h2] at r2
    have e1:=aV r1
    have e2:=aV r2
    exact .inl ⟨_,by simp[execOp,resolve,invoke,builtin,Builtin.max_,Builtin.max2,e1,e2],bh rfl⟩
   ·simp at h
  ·simp at h
 ·
  rename_i f args ts
  split at h
  ·rename_i as hpa
   rw[←hs.st] at hpa
   have hmt:=sU hI _ as _ hpa (ub hs args.toList)
   have hmt2:=tL (ym hI) (ld E.P f) as _ hmt
   rw[show C.still.P=E.P from hC] at hmt2
   obtain⟨fn,hf,hb,⟨u,rfl,hu,hcall⟩|⟨hl,hx,hcall⟩⟩:=hp f _ x h
   ·have hrun:=hcall C.still (args.map act.eval) hC (ym hI) (by simpa using hmt2)
    rw[←hC] at hf hrun
    refine .inr (.inl ⟨f,args.map act.eval,u,?_,rfl,hu,hrun⟩)
    simp[execOp,resolve,Deferred.ofValue,invoke,Act.eval,kg hE' hf hb]
   ·have hmt3:=zt (C':=C) _ _ hl hmt2
    have hrun:=hcall C (args.map act.eval) hC hI (by simpa using hmt3)
    rw[←hC] at hf hrun
    refine .inr (.inr ⟨f,args.map act.eval,?_,hx,hrun⟩)
    simp[execOp,resolve,Deferred.ofValue,invoke,Act.eval,kg hE' hf hb]
  ·simp at h
 ·simp at h
end Go.Dn
