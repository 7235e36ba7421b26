import Derived.Test.YtioeffnadipbaaaGreatDoorDnK
namespace Go.Dn
open Go
structure pQ(P:Program):Prop where
 lay:eI P
 names: ∀(f:Nat) (fn:Func),P.funcs[f]? =some fn->(fn.name== "runtime.NumGoroutine")=false
 mixed:P.follows .mixedOrders=true
structure gT(w w':World):Prop where
 size:w.heap.size<=w'.heap.size
 os:w'.os=w.os
 tape:w'.tape=w.tape
 output:w'.output=w.output
 heap: ∀b,b<w.heap.size->w'.heap[b]? =w.heap[b]?
theorem gT.refl(w:World):gT w w:=⟨Nat.le_refl _,rfl,rfl,rfl,fun _ _=>rfl⟩
theorem gT.trans{a b c:World}(h:gT a b)(k:gT b c):gT a c:=
 ⟨Nat.le_trans h.size k.size,k.os.trans h.os,k.tape.trans h.tape,k.output.trans h.output,fun i hi=>(k.heap i (by have:=h.size;omega)).trans (h.heap i hi)⟩
def v7:List AV->Bool
 |[]=>true
 | .lit v::l=>a9 v&&v7 l
 |_::_=>false
def Ctx.bare(C:Ctx):Ctx:={C with X:=fun b=>(C.P.kept b).isSome=true,st:=[],ι:=fun _=>⟨0,0,true⟩,cls:=id}
theorem Is{C:Ctx}(hI:Inv C):Inv C.bare:=by
 refine⟨hI.lay,fun i hi=>by simp[Ctx.bare] at hi,fun i j hi=>by simp[Ctx.bare] at hi,fun b hb=>?_,fun i hi=>by simp[Ctx.bare] at hi,fun b hb=>absurd rfl hb,fun b o h=>?_⟩
 ·obtain⟨o,h⟩:=Option.isSome_iff_exists.1 hb
  exact hI.xs b (hI.kept b o h).1
 ·exact⟨by show(C.P.kept b).isSome=true;rw[show C.P.kept b=some o from h];rfl,(hI.kept b o h).2⟩
theorem za{C C':Ctx}: ∀(l:List AV) (vs:List Value),v7 l=true->MT C l vs->MT C' l vs
 |[],vs,_,h=>by simpa[MT] using h
 | .lit u::l,[],_,h=>by simp[MT] at h
 | .lit u::l,v::vs,hl,h=>by
  simp only[v7,aa1] at hl
  simp only[MT,M] at h⊢
  exact⟨h.1,h.2.1,h.2.2.1,za l vs hl.2 h.2.2.2⟩
 | .cK::_,_,hl,_| .ad _ _::_,_,hl,_| .agg _::_,_,hl,_| .aX _::_,_,hl,_| .aB _ _ _::_,_,hl,_| .ptr _ _ _ _::_,_,hl,_| .iY _ _::_,_,hl,_| .mp _::_,_,hl,_
 | .de _::_,_,hl,_| .jV _ _::_,_,hl,_| .bq _ _::_,_,hl,_| .iN _ _::_,_,hl,_| .fJ _ _ _ _::_,_,hl,_=>by simp[v7] at hl
def Ey(P:Program)(f:FuncId)(C:Ctx)(vs:Array Value)(x:AV):Prop:=
 CallsIn Fence.wide 0 P f vs C.w (fun e w'=>∃v C1,e= .returned v/\C1.w=w'/\C1.P=C.P/\Inv C1/\Rel C1 x v/\Ext 0 C.bare C1)
def EZ(E:Env):Prop:=
 ∀ f as x,E.fu f as=some (true,x)->∃fn,E.P.funcs[f]? =some fn/\fn.body.isSome=true/\
  ((∃u,x= .lit u/\a9 u=true/\
   ∀(C:Ctx) (vs:Array Value),C.P=E.P->Inv C->MT C as vs.toList->CallsIn Fence.wide 0 E.P f vs C.w (fun e w'=>e= .returned u/\gT C.w w'))\/
   (v7 as=true/\refs x=[]/\∀(C:Ctx) (vs:Array Value),C.P=E.P->Inv C->MT C as vs.toList->Ey E.P f C vs x))
theorem jO{P:Program}(hP:pQ P){w:World}{f:FuncId}{fn:Func}(hf:P.funcs[f]? =some fn)(hb:fn.body.isSome=true)(args:Array Value):
  (callFunc f args).run P w= .ok (.enter f args) w:=by
 have hn:=hP.names f fn hf
 have hn': ¬ fn.name= "runtime.NumGoroutine" :=by simpa using hn
 have hb': ¬ fn.body=none:=by intro e;simp[e] at hb
 simp[callFunc,hf,hn',hb']
theorem tn{C:Ctx}{s:S}{a:Act}(hs:db C s a): ∀(l:List Operand),MT C (mQ s l) (l.map a.eval)
 |[]=>by simp[mQ,MT]
 |x::l=>by
  simp only[mQ,ac0,MT]
  have:=bm hs x
  exact⟨this.1,this.2.1,this.2.2,tn hs l⟩
theorem G6{C:Ctx}(hI:Inv C){a b:AV}{v:Value}(h:qs C.st a=some b)(hr:Rel C a v):Rel C.still b v:=by
 have UP:bW C.st a=some b->Rel C.still b v:=fun h1=>by
  obtain⟨g1,g2,g3,g4⟩:=ij a b h1
  have hj:a≠ .cK:=by intro e;subst e;simp[bW] at h1
  exact⟨.inl (by rw[g1];exact hr.1.resolve_right hj), .inl (by rw[g2];exact hr.2.1.resolve_right hj),tC hI (kP hI) rfl a b _ _ h1 (fun i _ hi hl=>Mf hI hi hl) hr.2.2⟩
 unfold qs at h
 split at h
 ·rename_i i k m
  split at h
  ·rename_i T E ls pd hst
   simp only[aa3] at h;subst h
   obtain⟨hi,hs⟩:=fy hr
   have hsub:=(hs.2 _ _ _ _ hst).2
   have hob:=hI.obj i hi
   rw[hst] at hob
   obtain⟨_,_,hE,hty,_⟩:=hob
   obtain⟨p,cap,rfl,h1,h2,h3,h4⟩:=Au hE (hty k) hsub
   refine⟨.inl rfl, .inl rfl,?_⟩
   simp only[M]
   refine⟨h3,p,cap,by rw[h2];rfl,by rw[h2];exact h1,fun hne=>?_⟩
   obtain⟨b,rfl,hlt,hm⟩:=h4 (by intro e;subst e;simp at hne)
   exact⟨b,0,rfl,hlt,fI (kP hI) hI.lay _ E _ _ _ _ h3 (fun _ _=>rfl) hm⟩
  ·exact UP h
 ·exact UP h
theorem sh{C:Ctx}(hI:Inv C): ∀(l m:List AV) (vs:List Value),fj C.st l=some m->MT C l vs->MT C.still m vs
 |[],m,vs,h,hm=>by simp only[fj,aa3] at h;subst h;simpa[MT] using hm
 |_::_,_,[],_,hm=>by simp[MT] at hm
 | a::l,m,v::vs,h,hm=>by
  simp only[fj] at h
  split at h
  ·rename_i b m' h1 h2
   simp only[aa3] at h;subst h
   simp only[MT] at hm⊢
   have:=G6 hI h1 ⟨hm.1,hm.2.1,hm.2.2.1⟩
   exact⟨this.1,this.2.1,this.2.2,sh hI l m' vs h2 hm.2.2.2⟩
  ·simp at h
theorem CM{C:Ctx}: ∀(l:List AV) (vs:List Value) (i:Nat),MT C l vs->i<l.length->∃v,vs[i]? =some v/\Rel C (nth l i) v
 |[],_,_,_,h=>by simp at h
 |_::_,[],_,h,_=>by simp[MT] at h
 |a::l,v::vs,0,h,_=>by simp only[MT] at h;exact⟨v,rfl,h.1,h.2.1,h.2.2.1⟩
 |a::l,v::vs,i+1,h,hi=>by
  simp only[MT] at h
  simpa[nth] using CM l vs i h.2.2.2 (by simpa using hi)
theorem oP{C:Ctx}: ∀(l:List AV) (vs:List Value),MT C l vs->vs.length=l.length
 |[],vs,h=>by simp only[MT] at h;simp[h]
 |_::_,[],h=>by simp[MT] at h
 |a::l,v::vs,h=>by simp only[MT] at h;simp[oP l vs h.2.2.2]
theorem Ec{C:Ctx}{i lo n:Nat}{v:Value}(h:kH C i lo n v)(hs:LC (an C.st i)=true):(v= .slice none 0 0/\n=0)\/ ∃q cap,v= .slice (some q) n cap:=by
 have row: ∀T xs,gC (an C.st i)=some (T,xs)->(v= .slice none 0 0/\n=0)\/ ∃q cap,v= .slice (some q) n cap:=fun T xs hel=>by
  rcases(h.1 T xs hel).2 with⟨_,rfl,_,rfl⟩|⟨_,cap,q,rfl,_⟩
  ·exact .inl ⟨rfl,rfl⟩
  ·exact .inr ⟨_,_,rfl⟩
 cases hx:an C.st i<;>rw[hx] at hs<;>simp[LC] at hs
 ·exact row _ _ (by rw[hx];rfl)
 ·exact row _ _ (by rw[hx];rfl)
 ·have h2:=h.2 _ _ _ _ hx
  cases lo with
  |zero=>obtain⟨_,cap,rfl,_⟩:=h2;exact .inr ⟨_,_,rfl⟩
  |succ k=>
   rcases h2.2.2 with⟨rfl,rfl⟩|⟨b,cap,c,rfl,_⟩
   ·exact .inl ⟨rfl,rfl⟩
   ·exact .inr ⟨_,_,rfl⟩
theorem Hg{C:Ctx}(hI:Inv C){T ty:TypeId}{ts:Array TypeId}(hts:ts[0]? =some T){a x:AV}{va:Value}(h:zP C.P C.st T a=some x)(hr:Rel C a va):
  ∃v,(Builtin.len_ ts ty #[va]).run C.P C.w= .ok v C.w/\Rel C x v:=by
 unfold zP at h
 split at h
 ·rename_i hT
  simp only[aa3] at h;subst h
  have:=aH hr;subst this
  exact⟨_,by simp[Builtin.len_,hts,run_underlying hT,goInt],aQ rfl⟩
 ·rename_i hT
  simp only[aa3] at h;subst h
  have:=aH hr;subst this
  exact⟨_,by simp[Builtin.len_,hts,run_underlying hT,goInt],aQ rfl⟩
 ·rename_i i hT
  split at h
  ·rename_i K V es hst
   simp only[aa3] at h;subst h
   obtain⟨hi,hmp⟩:=sg hr
   have:=hmp K V es hst;subst this
   obtain⟨entries,clock,hh,hent,hmap⟩:=mF hI hi hst
   have hl: ∀(es:List (Value×AV)) (ents:List MapEntry),bZ C V es ents->es.length=ents.length:=by
    intro es;induction es with
    |nil=>intro ents h;cases ents<;>simp_all[bZ]
    |cons x es ih=>intro ents h;cases ents<;>simp_all[bZ];exact ih _ h.2.2.2
   have:=hl es _ hent
   refine⟨.int .i64 entries.size,by simp[Builtin.len_,hts,run_underlying hT,run_getObj_map hh,goInt],?_⟩
   rw[this];simpa using aQ rfl
  ·simp at h
 ·rename_i hT
  simp only[aa3] at h;subst h
  have:=aH hr;subst this
  exact⟨_,by simp[Builtin.len_,hts,run_underlying hT,goInt],aQ rfl⟩
 ·rename_i i lo n hT
  split at h
  ·rename_i hel
   simp only[aa3] at h;subst h
   rcases Ec (fy hr).2 hel with⟨rfl,rfl⟩|⟨q,cap,rfl⟩
   ·exact⟨_,by simp[Builtin.len_,hts,run_underlying hT,goInt],aQ rfl⟩
   ·exact⟨_,by simp[Builtin.len_,hts,run_underlying hT,goInt],aQ rfl⟩
  ·simp at h
 ·rename_i K V ks vs hT
  simp only[aa3] at h;subst h
  obtain⟨b,ents,clock,rfl,_,hh,hmap,rfl,hp,hmt⟩:=tq hr
  ·refine⟨.int .i64 ents.size,by simp[Builtin.len_,hts,run_underlying hT,run_getObj_map hh,goInt],?_⟩
   simpa using aQ rfl
 ·rename_i T' l hT
  simp only[aa3] at h;subst h
  obtain⟨_,p,cap,rfl,_⟩:=mm hr
  exact⟨_,by simp[Builtin.len_,hts,run_underlying hT,goInt],aQ rfl⟩
 ·simp at h
theorem xy{C:Ctx}(hI:Inv C){T:TypeId}{a:AV}{v:Value}(hr:Rel C a v):Rel C (DY C.P T a) v:=by
 unfold DY
 split
 ·split
  ·split
   ·rename_i h;exact(fc hI (gn _ _ _ _ h hr.2.2) hr).1
   ·exact hr
  ·exact hr
 ·split
  ·split
   ·rename_i h;exact(fc hI (gn _ _ _ _ h hr.2.2) hr).1
   ·exact hr
  ·exact hr
 ·exact hr
theorem tk{C:Ctx}(hI:Inv C): ∀(Ts:List TypeId) (l:List AV) (vs:List Value),MT C l vs->MT C (pg C.P Ts l) vs
 |[],l,vs,h=>by cases l<;>exact h
 |_::_,[],vs,h=>by simpa only[pg] using h
 |T::Ts,a::l,[],h=>by simp[MT] at h
 |T::Ts,a::l,v::vs,h=>by
  simp only[MT] at h
  have:=xy hI (T:=T) (a:=a) (v:=v) ⟨h.1,h.2.1,h.2.2.1⟩
  simp only[pg,MT]
  exact⟨this.1,this.2.1,this.2.2,tk hI Ts l vs h.2.2.2⟩
def LH(P:Program)(C:Ctx)(act:Act)(o:Oper)(x:AV):Prop:=
 (∃v,(execOp act.eval o).run P C.w= .ok (.value v) C.w/\Rel C x v)\/
 (∃f args u,(execOp act.eval o).run P C.w= .ok (.enter f args) C.w/\x= .lit u/\a9 u=true/\
  CallsIn Fence.wide 0 P f args C.w (fun e w'=>e= .returned u/\gT C.w w'))\/
 (∃f args,(execOp act.eval o).run P C.w= .ok (.enter f args) C.w/\refs x=[]/\Ey P f C args x)
theorem Fo{s:S}{l:List Operand}{a:AV}(h:mQ s l=[a]): ∃x,l=[x]/\ev s x=a:=by
 match l,h with
 |[x],h=>grind [mQ]
 |[],h=>simp[mQ] at h
 |_::_::_,h=>simp[mQ] at h
theorem yN{s:S}{l:List Operand}{a b:AV}(h:mQ s l=[a,b]): ∃x y,l=[x,y]/\ev s x=a/\ev s y=b:=by
 match l,h with
 |[x,y],h=>grind [mQ]
 |[],h=>simp[mQ] at h
 |[_],h=>simp[mQ] at h
 |_::_::_::_,h=>simp[mQ] at h
theorem pb{P:Program}{w:World}{α β:Type}{g:α->Sem β}{r:α->β}: ∀(l:List α),(∀x,x∈l->(g x).run P w= .ok (r x) w)->(l.mapM g).run P w= .ok (l.map r) w
 |[],_=>by simp
 |a::l,h=>by
  simp only[List.mapM_cons,Sem.run_bind,h a (by simp),Result.andThen_ok,pb l (fun x hx=>h x (by simp[hx])),Sem.run_pure,ac0]
theorem uF{P:Program}{w:World}{α β:Type}{g:α->Sem β}{r:α->β}(l:Array α)(h: ∀x,x∈l->(g x).run P w= .ok (r x) w):(l.mapM g).run P w= .ok (l.map r) w:=by
 rw[Array.mapM_eq_mapM_toList,Sem.run_map,pb l.toList (fun x hx=>h x (by simpa using hx))]
 simp only[Result.andThen_ok]
 rw[←Array.toList_map,Array.toArray_toList]
theorem jd{P:Program}{a:AV}{T:TypeId}(h:br P a T): ∃d,P.underlying T=some d:=by
 cases hu:P.underlying T with
 |none=>cases a<;>simp[br,hu] at h
 |some d=>exact⟨d,rfl⟩
theorem sl{P:Program}: ∀(l:List AV) (fs:List Field),dy P l fs->∀f,f∈fs->∃d,P.underlying f.type=some d
 |[],[],_,_,h=>by simp at h
 |[],_::_,h,_,_=>by simp[dy] at h
 |_::_,[],h,_,_=>by simp[dy] at h
 |a::l,g::fs,h,f,hf=>by
  simp only[dy] at h
  simp only[ac1] at hf
  rcases hf with rfl|hf
  ·exact jd h.1
  ·exact sl l fs h.2 f hf
theorem cF{P:Program}{w:World}{x:Sem Value}{v:Value}(h:x.run P w= .ok v w):(do pure (Next.value (←x)):Sem Next).run P w= .ok (.value v) w:=by
 simp[h]
theorem uX{C:Ctx}(hI:Inv C){T:TypeId}{a:AV}{u va:Value}(h:IA C.P T a=some u)(hr:Rel C a va):(Instr.loadAt T va).run C.P C.w= .ok u C.w/\a9 u=true:=by
 unfold IA at h
 split at h
 ·rename_i g
  have hva:=aH hr
  subst hva
  split at h
  ·rename_i cs ty fz hk
   split at h
   ·rename_i v hcs
    split at h
    ·rename_i hc
     simp only[aa3] at h
     subst h
     simp only[aa1,Bool.not_eq_true'] at hc
     obtain⟨⟨h1,h2⟩,h3⟩:=hc
     obtain⟨d,hd⟩:=Option.isSome_iff_exists.1 h3
     obtain⟨_,hh⟩:=hI.kept _ _ hk
     have hcell:C.w.cell? ⟨g,0,none⟩=some v:=by
      have:cs[0]? =some v:=by rw[←Array.getElem?_toList,hcs];rfl
      simp only[World.cell?,hh]
      exact this
     refine⟨?_,h1⟩
     simp only[Instr.loadAt,Instr.sureAddr,Sem.run_bind,Sem.run_pure,Result.andThen_ok,loadVar,iu hd,h2,Bool.false_eq_true,if_false]
     exact jr hcell
    ·cases h
   ·cases h
  ·cases h
 ·cases h
theorem GI{C:Ctx}(hI:Inv C){T:TypeId}{a x:AV}{va:Value}(h:OB C.P T a=some (true,x))(hr:Rel C a va): ∃u,x= .lit u/\(Instr.loadAt T va).run C.P C.w= .ok u C.w/\a9 u=true:=by
 unfold OB at h
 split at h
 ·rename_i g off
  have hva:=aH hr
  subst hva
  split at h
  ·rename_i cs ty fz hk
   split at h
   ·split at h
    ·rename_i hT
     split at h
     ·rename_i hu
      simp only[aa3,aa9,aa0] at h
      obtain⟨hlt,rfl⟩:=h
      obtain⟨_,hh⟩:=hI.kept _ _ hk
      have key: ∀l:List Value,WE l=true->∀v,v∈l->∃n,v= .int .u8 n:=by
       intro l
       induction l with
       |nil=>intro _ v hv;cases hv
       | cons b l ih=>
        intro hl v hv
        match b,hl with
        | .int .u8 m,hl=>
         rcases List.mem_cons.1 hv with rfl|hv
         ·exact⟨m,rfl⟩
         ·exact ih hl v hv
      obtain⟨n,hn⟩:=key _ hu cs[off] (by simp)
      have hcell:C.w.cell? ⟨g,off,none⟩=some (.int .u8 n):=by
       simp only[World.cell?,hh]
       rw[←hn];simp[hlt]
      have ht:OJ C.P g off=n:=by
       unfold OJ
       rw[hk]
       simp[hlt,hn]
      refine⟨_,rfl,?_,rfl⟩
      rw[ht]
      have hagg:dK C.P.toProgram T=false:=by simp[dK,hT]
      simp only[Instr.loadAt,Instr.sureAddr,Sem.run_bind,Sem.run_pure,Result.andThen_ok,loadVar,iu hT,hagg,Bool.false_eq_true,if_false]
      exact jr hcell
     ·cases h
    ·cases h
   ·cases h
  ·cases h
 ·cases h
theorem C6{E:Env}(hE:pQ E.P)(hp:EZ E){C:Ctx}(hC:C.P=E.P)(hI:Inv C){s:S}{act:Act}(hs:db C s act){o:Oper}{x:AV}(h:bF E s o.op=some (true,x)):LH C.P C act o x:=by
 obtain⟨dst,op,type,pos,after,guard⟩:=o
 simp only at h
 have hE':pQ C.P:=hC▸hE
 unfold bF at h
 split at h
 ·
  rename_i y
  simp only[aa3,aa9,true_and] at h;subst h
  exact .inl ⟨_,rfl,bm hs y⟩
 ·rename_i y
  simp only[aa3,aa9,true_and] at h;subst h
  exact .inl ⟨_,rfl,bm hs y⟩
 ·
  rename_i T y
  split at h
  ·rename_i r hu
   simp only[aa3] at h;subst h
   rw[←hC] at hu
   obtain⟨u,rfl,h1,h2⟩:=GI hI hu (bm hs y)
   exact .inl ⟨u,cF h1,aQ h2⟩
  split at h
  ·rename_i u hu
   simp only[aa3,aa9,true_and] at h;subst h
   rw[←hC] at hu
   exact .inl ⟨u,cF (uX hI hu (bm hs y)).1,aQ (uX hI hu (bm hs y)).2⟩
  ·rw[←hC,←hs.st] at h
   obtain⟨v,h1,h2⟩:=uS hI h (bm hs y)
   exact .inl ⟨v,cF h1,h2⟩
 ·
  rename_i T y
  rw[←hC] at h
  have hr:=bm hs y
  unfold BH at h
  split at h
  ·cases h
  ·cases h
  ·rename_i d hni hd
   have hrun: ∀v,(Instr.makeInterface T v).run C.P C.w= .ok (.iface T v) C.w:=fun v=>by
    simp only[Instr.makeInterface,Sem.run_bind,run_underlying hd,Result.andThen_ok]
    cases d<;>first|rfl|exact absurd rfl (hni _)
   split at h
   ·rename_i v hev
    cases h
    rw[hev] at hr
    have:=aH hr
    exact .inl ⟨.iface T v,by rw[←this];exact cF (hrun _),aQ rfl⟩
   ·cases h
   ·rename_i hne1 hne2
    cases h
    refine .inl ⟨.iface T (act.eval y),cF (hrun _), .inl rfl, .inl rfl,?_⟩
    simp only[M]
    refine⟨act.eval y,rfl,hr.1.resolve_right hne2,hr.2.1.resolve_right hne2,hr.2.2⟩
 ·
  rename_i S T y
  rw[←hC] at h
  have hr:=bm hs y
  unfold Bm at h
  split at h
  ·rename_i E hS hT
   split at h
   ·rename_i hE
    split at h
    ·rename_i hc
     have conv: ∀p n cap,act.eval y= .slice p n cap->(convert S T (act.eval y)).run C.P C.w=(Conv.bytesToString (act.eval y)).run C.P C.w:=fun p n cap hv=>by
      rw[hv];exact Go.run_convert_bytes_string C.w S T E p n cap hS hE hT
     split at h
     ·rename_i hev
      cases h
      rw[hev] at hr
      have:=aH hr
      refine .inl ⟨.string ⟨#[]⟩,cF ?_,aQ rfl⟩
      rw[conv _ _ _ this,this];rfl
     ·rename_i E' l hev
      split at h
      ·rename_i hEE
       subst hEE
       cases h
       rw[hev] at hr
       obtain⟨_,p,cap,hv,_⟩:=mm hr
       refine .inl ⟨.string (bytesOf l),cF ?_,aQ rfl⟩
       rw[conv _ _ _ hv]
       exact yd hE hc hr
      ·cases h
     ·rename_i i lo n hev
      split at h
      ·rename_i E' l hel
       split at h
       ·rename_i hEE
        subst hEE
        cases h
        rw[hev] at hr
        have hel':gC (an C.st i)=some (E,l):=by rw[hs.st];exact hel
        obtain⟨h1,_⟩:=wC hI hE hc hel' hr
        refine .inl ⟨.string (bytesOf ((l.drop lo).take n)),cF ?_,aQ rfl⟩
        obtain⟨hi,hsl⟩:=fy hr
        obtain⟨_,⟨_,hv,_⟩|⟨_,cap,q,hv,_⟩⟩:=hsl.1 E l hel'
        ·rw[conv _ _ _ hv];exact h1
        ·rw[conv _ _ _ hv];exact h1
       ·cases h
      ·cases h
     ·cases h
    ·cases h
   ·cases h
  ·unfold NH at h
   split at h
   ·rename_i d k k' n hS hT hev
    cases h
    rw[hev] at hr
    have:=aH hr
    refine .inl ⟨.int k (k.wrap n),cF ?_,aQ rfl⟩
    rw[this]
    simp only[convert,Sem.run_bind,run_underlying hS,run_underlying hT,Result.andThen_ok]
    rfl
   ·cases h
 ·
  rename_i y
  have hr:=bm hs y
  split at h
  ·rename_i i k p off hev
   split at h
   ·rename_i hl
    simp only[aa3,aa9,true_and] at h;subst h
    rw[hev] at hr
    obtain⟨_,hp⟩:=mz hr
    obtain⟨b,o,hv⟩:=AS (by rw[hs.st];exact hl) hp
    rw[hv] at hr
    exact .inl ⟨_,by simp[execOp,hv],hr⟩
   ·simp at h
  ·rename_i T a hev
   simp only[aa3,aa9,true_and] at h;subst h
   rw[hev] at hr
   obtain⟨b,o,hv,_⟩:=yE hr
   rw[hv] at hr
   exact .inl ⟨_,by simp[execOp,hv],hr⟩
  ·rename_i f caps hev
   simp only[aa3,aa9,true_and] at h;subst h
   rw[hev] at hr
   obtain⟨vs,hv,_⟩:=tE hr
   rw[hv] at hr
   exact .inl ⟨_,by simp[execOp,hv],hr⟩
  ·simp at h
 ·
  rename_i op T y z T'
  split at h
  ·rename_i r hb
   simp only[aa3] at h
   subst h
   rw[←hC] at hb
   obtain⟨v,h1,h2,rfl⟩:=HU (ox:=y) hb (bm hs y)
   exact .inl ⟨v,cF h1,h2⟩
  ·split at h
   ·rename_i r hb
    simp only[aa3] at h
    subst h
    obtain⟨v,h1,h2⟩:=Dg (C:=C) (T:=T) (ox:=y) (oy:=z) (by first|exact hb|(rw[hC];exact hb)) (bm hs y) (bm hs z)
    exact .inl ⟨v,cF h1,h2⟩
   ·obtain⟨v,h1,h2⟩:=Gp (C:=C) (T:=T) (ox:=y) (oy:=z) h (bm hs y) (bm hs z)
    exact .inl ⟨v,cF h1,h2⟩
 ·
  rename_i op T y
  have hr:=bm hs y
  split at h
  ·rename_i b hev
   simp only[aa3,aa9,true_and] at h;subst h
   rw[hev] at hr
   have:=aH hr
   exact .inl ⟨.bool !b,by simp[execOp,this,Op.unary],aQ rfl⟩
  ·rename_i k n hev
   simp only[aa3,aa9,true_and] at h;subst h
   rw[hev] at hr
   have:=aH hr
   exact .inl ⟨.int k (k.wrap (0 - n)),by simp[execOp,this,Op.unary,Op.intArith],aQ rfl⟩
  ·simp at h
 ·
  rename_i T y lo hi
  rw[←hC] at h
  obtain⟨v,h1,h2⟩:=Ag hI hs h (bm hs y)
  exact .inl ⟨v,cF h1,h2⟩
 ·
  rename_i T y lo hi m
  rw[←hC] at h
  obtain⟨v,h1,h2⟩:=Aa hI hs h (bm hs y)
  exact .inl ⟨v,cF h1,h2⟩
 ·
  rename_i T y f
  rw[←hC,←hs.st] at h
  obtain⟨v,h1,h2⟩:=td hI h (bm hs y)
  exact .inl ⟨v,cF h1,h2⟩
 ·
  rename_i T y f
  rw[←hC] at h
  obtain⟨v,h1,h2⟩:=Bj hI h (bm hs y)
  exact .inl ⟨v,cF h1,h2⟩
 ·
  rename_i T y i
  rw[←hC] at h
  obtain⟨v,h1,h2⟩:=s6 hI hs.st h (bm hs y) (bm hs i)
  exact .inl ⟨v,cF h1,h2⟩
 ·
  rename_i T y i
  rw[←hC] at h
  obtain⟨v,h1,h2⟩:=Ai h (bm hs y) (bm hs i)
  exact .inl ⟨v,cF h1,h2⟩
 ·
  rename_i T m k ok
  rw[←hC] at h
  obtain⟨v,h1,h2⟩:=yo hI hs.st h (bm hs m) (bm hs k)
  exact .inl ⟨v,cF h1,h2⟩
 ·
  rename_i y i
  have hr:=bm hs y
  split at h
  ·rename_i l hev
   split at h
   ·rename_i hi
    simp only[aa3,aa9,true_and] at h;subst h
    rw[hev] at hr
    obtain⟨vs,hv,hm⟩:=z9 hr
    obtain⟨v,h1,h2⟩:=CM l vs.toList i hm hi
    have h1':vs[i]? =some v:=by simpa using h1
    exact .inl ⟨v,by simp[execOp,hv,Instr.extract,h1'],h2⟩
   ·simp at h
  ·simp at h
 ·
  rename_i f first caps
  split at h
  ·rename_i hf
   simp only[aa3,aa9,true_and] at h;subst h
   have hf':first= #[]:=by simpa using hf
   subst hf'
   refine .inl ⟨.func (.func f) #[] (caps.map act.eval),by simp[execOp,Instr.makeFunc], .inl rfl, .inl rfl,?_⟩
   simp only[M]
   exact⟨caps.map act.eval,by simp[Value.cells],by simpa using tn hs caps.toList⟩
  ·simp at h
 ·
  rename_i T parts
  split at h
  ·rename_i l hz
   split at h
   ·rename_i a hb
    simp only[aa3,aa9,true_and] at h;subst h
    rw[←hC] at hz hb
    obtain⟨i,zv,hi,hzv,hrz,_,hpz⟩:=ec hI hz
    obtain⟨cs,rfl,hsz,hm⟩:=tw hrz
    simp only[br] at hpz
    obtain⟨fs,⟨hfs,_⟩,hpf⟩:=hpz
    have hplace: ∀(i:Nat) (fd:Field),fs[i]? =some fd->(fun j=>((fs.map fun f=>(f.offset,C.P.cellsOf f.type)))[j]?) i=some (fd.offset,C.P.cellsOf fd.type):=by
     intro i fd h;simp[h]
    obtain⟨cells',h1,h2⟩:=vj hI hs hfs hplace parts.toList l cs _ hb hm hsz
    have hmap:=uF (P:=C.P) (w:=C.w) (g:=fun f:Field=>do pure (f.offset,←sizeOf f.type)) (r:=fun f=>(f.offset,C.P.cellsOf f.type)) fs (fun f hf=>by
     obtain⟨d,hd⟩:=sl _ _ hpf f (by simpa using hf)
     simp[run_sizeOf hd])
    have hparts:(parts.map fun x=>(x.1,act.eval x.2)).toList=parts.toList.map fun p=>(p.1,act.eval p.2):=by simp
    refine .inl ⟨.agg cells',cF ?_,h2⟩
    unfold Instr.build
    simp only[Sem.run_bind,jq hi hzv,Result.andThen_ok,run_underlying hfs,Value.cells]
    rw[hmap]
    simp only[Result.andThen_ok]
    have h1':Instr.fill (fun x=>(Array.map (fun f:Field=>(f.offset,C.P.cellsOf f.type)) fs)[x]?) cs (Array.map (fun x:Nat×Operand=>(x.1,act.eval x.2)) parts).toList=some cells':=by rw[hparts];exact h1
    simp only[h1',Sem.run_pure]
   ·simp at h
  ·simp at h
 ·
  rename_i args ts
  split at h
  ·rename_i a T tl hev hts
   split at h
   ·rename_i y hl
    simp only[aa3,aa9,true_and] at h;subst h
    obtain⟨z,hz,rfl⟩:=Fo hev
    have ha:args= #[z]:=by rw[←Array.toArray_toList (xs:=args),hz]
    subst ha
    have hts':ts[0]? =some T:=by rw[←Array.getElem?_toList,hts];rfl
    rw[←hC,←hs.st] at hl
    obtain⟨v,h1,h2⟩:=Hg hI (ty:=type) hts' hl (bm hs z)
    exact .inl ⟨v,by simp[execOp,resolve,invoke,builtin,h1],h2⟩
   ·simp at h
  ·simp at h
 ·
  rename_i args ts
  split at h
  ·rename_i k n k' m hev
   split at h
   ·rename_i hk
    subst hk
    simp only[aa3,aa9,true_and] at h;subst h
    obtain⟨y,z,hz,h1,h2⟩:=yN hev
    have ha:args= #[y,z]:=by rw[←Array.toArray_toList (xs:=args),hz]
    subst ha
    have r1:=bm hs y;rw[h1] at r1
    have r2:=bm hs z;rw[h2] at r2
    have e1:=aH r1
    have e2:=aH r2
    exact .inl ⟨_,by simp[execOp,resolve,invoke,builtin,Builtin.min_,Builtin.min2,e1,e2],aQ rfl⟩
   ·simp at h
  ·simp at h
 ·
  rename_i args ts
  split at h
  ·rename_i k n k' m hev
   split at h
   ·rename_i hk
    subst hk
    simp only[aa3,aa9,true_and] at h;subst h
    obtain⟨y,z,hz,h1,h2⟩:=yN hev
    have ha:args= #[y,z]:=by rw[←Array.toArray_toList (xs:=args),hz]
    subst ha
    have r1:=bm hs y;rw[h1] at r1
    have r2:=bm hs z;rw[h2] at r2
    have e1:=aH r1
    have e2:=aH r2
    exact .inl ⟨_,by simp[execOp,resolve,invoke,builtin,Builtin.max_,Builtin.max2,e1,e2],aQ rfl⟩
   ·simp at h
  ·simp at h
 ·
  rename_i f args ts
  split at h
  ·rename_i as hpa
   rw[←hs.st] at hpa
   have hmt:=sh hI _ as _ hpa (tn hs args.toList)
   have hmt2:=tk (rW hI) (ku E.P f) as _ hmt
   rw[show C.still.P=E.P from hC] at hmt2
   obtain⟨fn,hf,hb,⟨u,rfl,hu,hcall⟩|⟨hl,hx,hcall⟩⟩:=hp f _ x h
   ·have hrun:=hcall C.still (args.map act.eval) hC (rW hI) (by simpa using hmt2)
    rw[←hC] at hf hrun
    refine .inr (.inl ⟨f,args.map act.eval,u,?_,rfl,hu,hrun⟩)
    simp[execOp,resolve,Deferred.ofValue,invoke,Act.eval,jO hE' hf hb]
   ·have hmt3:=za (C':=C) _ _ hl hmt2
    have hrun:=hcall C (args.map act.eval) hC hI (by simpa using hmt3)
    rw[←hC] at hf hrun
    refine .inr (.inr ⟨f,args.map act.eval,?_,hx,hrun⟩)
    simp[execOp,resolve,Deferred.ofValue,invoke,Act.eval,jO hE' hf hb]
  ·simp at h
 ·simp at h
end Go.Dn
