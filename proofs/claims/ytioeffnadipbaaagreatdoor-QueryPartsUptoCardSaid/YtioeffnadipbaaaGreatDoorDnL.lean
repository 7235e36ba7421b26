import Derived.Test.YtioeffnadipbaaaGreatDoorDnK
namespace Go.Dn
open Go
structure qH(P:Program):Prop where
 lay:eU P
 names: ∀(f:Nat) (fn:Func),P.funcs[f]? =some fn->(fn.name== "runtime.NumGoroutine")=false
 mixed:P.follows .mixedOrders=true
structure ik(w w':World):Prop where
 size:w.heap.size<=w'.heap.size
 os:w'.os=w.os
 tape:w'.tape=w.tape
 output:w'.output=w.output
 heap: ∀b,b<w.heap.size->w'.heap[b]? =w.heap[b]?
theorem ik.refl w:ik w w:=⟨Nat.le_refl _,rfl,rfl,rfl,by simp⟩
theorem ik.trans{a b c}(h:ik a b)(k:ik b c):ik a c:=
 ⟨Nat.le_trans h.size k.size,k.os.trans h.os,k.tape.trans h.tape,k.output.trans h.output,fun i d=>(k.heap i (by have:=h.size;omega)).trans (h.heap i d)⟩
def wY:List AV->Bool
 |[]=>true
 | .lit v::l=>bg v&&wY l
 |_::_=>false
def Ctx.bare(C:Ctx):={C with X:=fun b=>(C.P.kept b).isSome=true,st:=[],ι:=fun _=>⟨0,0,true⟩,cls:=id}
theorem Lu{C}(a:Inv C):Inv C.bare:=by
 refine⟨a.lay,fun i d=>by grind [Ctx.bare],fun i j d=>by grind [Ctx.bare],fun b c=>?_,fun i d=>by grind [Ctx.bare],fun b c=>absurd rfl c,fun b o h=>?_⟩
 ·obtain⟨o,h⟩:=Option.isSome_iff_exists.1 c
  exact a.xs b (a.kept b o h).1
 ·exact⟨by show(C.P.kept b).isSome=true;rw[show C.P.kept b=some o from h];rfl,(a.kept b o h).2⟩
theorem Ag{C C'}: ∀l vs,wY l=true->MT C l vs->MT C' l vs
 |[],vs,_,h=>by grind [MT]
 | .lit u::l,[],_,h=>by grind [MT]
 | .lit u::l,v::vs,hl,h=>by
  simp[wY] at hl;exact⟨h.1,h.2.1,h.2.2.1,Ag l _ hl.2 h.2.2.2⟩
 | .cK::_,_,hl,_| .ad _ _::_,_,hl,_| .agg _::_,_,hl,_| .aK _::_,_,hl,_| .ax _ _ _::_,_,hl,_| .ptr _ _ _ _::_,_,hl,_| .jA _ _::_,_,hl,_| .mp _::_,_,hl,_
 | .bJ _::_,_,hl,_| .lC _ _::_,_,hl,_| .bp _ _::_,_,hl,_| .jz _ _::_,_,hl,_| .eO _ _ _ _::_,_,hl,_=>by grind [wY]
def Gq P f(C:Ctx) b x:=
 CallsIn Fence.wide 0 P f b C.w fun e c=>∃v a,e= .returned v/\a.w=c/\a.P=C.P/\Inv a/\Rel a x v/\Ext 0 C.bare a
def Gw(E:Env):=
 ∀ f b x,E.fN f b=some (true,x)->∃c,E.P.funcs[f]? =some c/\c.body.isSome=true/\
  ((∃u,x= .lit u/\bg u=true/\
   ∀C a,C.P=E.P->Inv C->MT C b a.toList->CallsIn Fence.wide 0 E.P f a C.w fun e d=>e= .returned u/\ik C.w d)\/
   wY b=true/\refs x=[]/\∀C a,C.P=E.P->Inv C->MT C b a.toList->Gq E.P f C a x)
theorem kC{P}(d:qH P){w f b}(e:P.funcs[f]? =some b)(g:b.body.isSome=true) a:
  (callFunc f a).run P w= .ok (.enter f a) w:=by
 have h:=d.names f _ e;have c: ¬ b.body=none:=by grind
 simp_all[callFunc]
theorem vl{C s a}(b:dh C s a): ∀l,MT C (oI s l) (l.map a.eval)
 |[]=>by rfl
 |x::l=>by
  have:=bo b x
  exact⟨this.1,this.2.1,this.2.2,vl b l⟩
theorem JQ{C}(c:Inv C){a b v}(h:sv C.st a=some b)(n:Rel C a v):Rel C.still b v:=by
 have d:b9 C.st a=some b->Rel C.still b v:=fun f=>by
  obtain⟨z,x,I,H⟩:=iT a b f;have s:a≠ .cK:=by intro e;subst e;simp[b9] at f
  exact⟨.inl (by rw[z];exact n.1.resolve_right s), .inl (by rw[x];exact n.2.1.resolve_right s),vt c (l9 c) rfl a b _ _ f (fun i _ o A=>Qf c o A) n.2.2⟩
 unfold sv at h;split at h
 ·rename_i i k m
  split at h
  ·rename_i T E J K g
   simp only[an5] at h;subst h
   obtain⟨o,y⟩:=gj n;have l:=(y.2 _ _ _ _ g).2;have j:=c.obj i o;rw[g] at j;obtain⟨_,_,B,r,_⟩:=j;obtain⟨p,cap,rfl,f,t,u,D⟩:=DZ B (r k) l;refine⟨.inl rfl, .inl rfl,?_⟩;simp only[M];refine⟨u,p,cap,by rw[t];rfl,by rw[t];exact f,fun F=>?_⟩;obtain⟨b,rfl,q,w⟩:=D (by grind);exact⟨b,0,rfl,q,gg (l9 c) c.lay _ E _ _ _ _ u (fun _ _=>rfl) w⟩
  ·exact d h
 ·exact d h
theorem uN{C}(e:Inv C): ∀l m d,fP C.st l=some m->MT C l d->MT C.still m d
 |[],m,d,h,c=>by grind [fP,MT]
 |_::_,_,[],_,c=>by grind [MT]
 | a::l,m,v::d,h,c=>by
  simp[fP] at h;split at h
  ·rename_i b i g f
   simp   at h;subst h
   have:=JQ e g ⟨c.1,c.2.1,c.2.2.1⟩
   exact⟨this.1,this.2.1,this.2.2,uN e l _ d f c.2.2.2⟩
  grind
theorem Ex{C}: ∀l b i,MT C l b->i<l.length->∃v,b[i]? =some v/\Rel C (nth l i) v
 |[],_,_,_,h=>by grind
 |_::_,[],_,h,_=>by grind [MT]
 |a::l,v::b,0,h,_=>by exact⟨v,rfl,h.1,h.2.1,h.2.2.1⟩
 |a::l,v::b,i+1,h,c=>by
  simpa[nth] using Ex l _ i h.2.2.2 (by grind)
theorem pI{C}: ∀l b,MT C l b->b.length=l.length
 |[],b,h=>by grind [MT]
 |_::_,[],h=>by grind [MT]
 |a::l,v::b,h=>by simp[pI l _ h.2.2.2]
theorem HV{C i lo n v}(h:lH C i lo n v)(f:QK (au C.st i)=true):v= .slice none 0 0/\n=0\/ ∃q cap,v= .slice (some q) n cap:=by
 have a: ∀T xs,ib _=some (T,xs)->(v= .slice none 0 0/\n=0)\/ ∃q cap,v= .slice (some q) n cap:=fun T xs e=>by
  rcases(h.1 T xs e).2 with⟨_,rfl,_,rfl⟩|⟨_,cap,q,rfl,_⟩
  ·simp
  simp
 cases d:au C.st i<;>rw[d] at f<;>simp[QK] at f
 ·exact a _ _ (by rw[d];rfl)
 ·exact a _ _ (by rw[d];rfl)
 ·have g:=h.2 _ _ _ _ d
  cases lo with
  |zero=>grind
  |succ k=>
   rcases g.2.2 with⟨rfl,rfl⟩|⟨b,cap,c,rfl,_⟩
   ·simp
   simp
theorem Jq{C}(A:Inv C){T ty y}(d:y[0]? =some T){a x z}(h:AP C.P C.st T a=some x)(j:Rel C a z):
  ∃v,(Builtin.len_ y ty #[z]).run C.P C.w= .ok v C.w/\Rel C x v:=by
 unfold AP at h;split at h
 ·rename_i e
  simp only[an5] at h;subst h
  have:=aL j;subst this
  exact⟨_,by simp[Builtin.len_,d,run_underlying e,goInt],aW rfl⟩
 ·rename_i e
  simp only[an5] at h;subst h
  have:=aL j;subst this
  exact⟨_,by simp[Builtin.len_,d,run_underlying e,goInt],aW rfl⟩
 ·rename_i i e
  split at h
  ·rename_i K V g m
   simp only[an5] at h;subst h
   obtain⟨B,s⟩:=tP j;have:=s K V g m;subst this
   obtain⟨f,k,t,o,r⟩:=nH A B m;have D: ∀(g:List (Value×AV)) (c:List MapEntry),cE C V g c->g.length=c.length:=by
    intro g;induction g with
    |nil=>intro c h;cases c<;>simp_all[cE]
    |cons x g E=>intro c h;cases c<;>simp_all[cE];exact E _ h.2.2.2
   have:=D g _ o
   refine⟨.int .i64 f.size,by simp[Builtin.len_,d,run_underlying e,run_getObj_map t,goInt],?_⟩;rw[this];simpa using aW rfl
  ·simp at h
 ·rename_i e
  simp only[an5] at h;subst h
  have:=aL j;subst this
  exact⟨_,by simp[Builtin.len_,d,run_underlying e,goInt],aW rfl⟩
 ·rename_i i lo n e
  split at h
  ·rename_i u
   simp only[an5] at h;subst h
   rcases HV (gj j).2 u with⟨rfl,rfl⟩|⟨q,cap,rfl⟩
   ·exact⟨_,by simp[Builtin.len_,d,run_underlying e,goInt],aW rfl⟩
   ·exact⟨_,by simp[Builtin.len_,d,run_underlying e,goInt],aW rfl⟩
  ·simp at h
 ·rename_i K V H I e
  simp only[an5] at h;subst h
  rcases vw j with⟨_,rfl,rfl,rfl⟩|⟨b,c,k,rfl,_,t,r,rfl,J,F⟩
  ·exact⟨_,by simp[Builtin.len_,d,run_underlying e,goInt],aW rfl⟩
  ·refine⟨.int .i64 c.size,by simp[Builtin.len_,d,run_underlying e,run_getObj_map t,goInt],?_⟩
   simpa using aW rfl
 ·rename_i L l e
  simp only[an5] at h;subst h
  obtain⟨_,p,cap,rfl,_⟩:=nM j;exact⟨_,by simp[Builtin.len_,d,run_underlying e,goInt],aW rfl⟩
 ·simp at h
theorem yY{C}(c:Inv C){T a v}(b:Rel C a v):Rel C (GP C.P T a) v:=by
 unfold GP;split
 ·split
  ·split
   ·rename_i h;exact(eR c (iq _ _ _ _ h b.2.2) b).1
   omega
  ·exact b
 ·split
  ·split
   ·rename_i h;exact(eR c (iq _ _ _ _ h b.2.2) b).1
   ·exact b
  omega
 ·exact b
theorem vm{C}(c:Inv C): ∀Ts l b,MT C l b->MT C (r4 C.P Ts l) b
 |[],l,b,h=>by cases l<;>exact h
 |_::_,[],b,h=>by grind [r4]
 |T::Ts,a::l,[],h=>by grind [MT]
 |T::Ts,a::l,v::b,h=>by
  have:=yY c (T:=T)   ⟨h.1,h.2.1,h.2.2.1⟩
  exact⟨this.1,this.2.1,this.2.2,vm c _ l _ h.2.2.2⟩
def PE P C(b:Act) o x:=
 (∃v,(execOp b.eval o).run P C.w= .ok (.value v) C.w/\Rel C x v)\/
 (∃f a u,(execOp b.eval o).run P C.w= .ok (.enter f a) C.w/\x= .lit u/\bg u=true/\
  CallsIn Fence.wide 0 P f a C.w fun e c=>e= .returned u/\ik C.w c)\/
 ∃f a,(execOp b.eval o).run P C.w= .ok (.enter f a) C.w/\refs x=[]/\Gq P f C a x
theorem GK{s l a}(h:oI s l=[a]): ∃x,l=[x]/\ev s x=a:=by
 match l,h with
 |[x],h=>grind [oI]
 |[],h=>grind [oI]
 |_::_::_,h=>grind [oI]
theorem AA{s l a b}(h:oI s l=[a,b]): ∃x y,l=[x,y]/\ev s x=a/\ev s y=b:=by
 match l,h with
 |[x,y],h=>grind [oI]
 |[],h=>grind [oI]
 |[_],h=>grind [oI]
 |_::_::_::_,h=>grind [oI]
theorem qz{P w}{α β:Type}{g:α->Sem β}{r}: ∀(l:List _),(∀x,x∈l->(g x).run P w= .ok (r x) w)->(l.mapM g).run P w= .ok (l.map r) w
 |[],_=>by rfl
 |a::l,h=>by
  simp[h a _,qz l fun x b=>h x (by grind)]
theorem xR{P w}{α β:Type}{g:α->Sem β}{r}(l:Array _)(h: ∀x,x∈l->(g x).run P w= .ok (r x) w):(l.mapM g).run P w= .ok (l.map r) w:=by
 rw[Array.mapM_eq_mapM_toList,Sem.run_map,qz _ fun x a=>h x (by grind)];simp
 grind
theorem jK{P a T}(h:bu P a T): ∃d,P.underlying T=some d:=by
 cases b:P.underlying T with
 |none=>cases a<;>simp[bu,b] at h
 |some d=>simp
theorem uM{P}: ∀l c,ea P l c->∀f,f∈c->∃d,P.underlying f.type=some d
 |[],[],_,_,h=>by grind
 |[],_::_,h,_,_=>by grind [ea]
 |_::_,[],h,_,_=>by grind
 |a::l,g::c,h,f,b=>by
  simp   at b;rcases b with rfl|b
  ·exact jK h.1
  ·exact uM l _ h.2 f b
theorem ct{P w x v}(h:x.run P w= .ok v w):(do pure (Next.value (←x)):Sem _).run P w= .ok (.value v) w:=by
 simp[h]
theorem wO{C}(j:Inv C){T a u f}(h:Ma C.P T a=some u)(k:Rel C a f):(Instr.loadAt T f).run C.P C.w= .ok u C.w/\bg u=true:=by
 unfold Ma at h;split at h
 ·rename_i g
  have c:=aL k;subst c;split at h
  ·rename_i l ty q n
   split at h
   ·rename_i v e
    split at h
    ·rename_i i
     simp only[an5] at h;subst h;simp only[an3,Bool.not_eq_true'] at i;obtain⟨⟨m,o⟩,p⟩:=i;obtain⟨d,hd⟩:=Option.isSome_iff_exists.1 p;obtain⟨_,r⟩:=j.kept _ _ n;have b:C.w.cell? ⟨g,0,none⟩=some v:=by
      have:l[0]? =some v:=by rw[←Array.getElem?_toList,e];rfl
      grind [World.cell?]
     refine⟨?_,m⟩;simp only[Instr.loadAt,Instr.sureAddr,Sem.run_bind,Sem.run_pure,Result.andThen_ok,loadVar,hG hd,o,if_false];exact lZ b
    ·cases h
   ·cases h
  ·cases h
 ·cases h
theorem Kw{C}(t:Inv C){T a x o}(h:U9 C.P T a=some (true,x))(z:Rel C a o): ∃u,x= .lit u/\(Instr.loadAt T o).run C.P C.w= .ok u C.w/\bg u=true:=by
 unfold U9 at h;split at h
 ·rename_i g off
  have i:=aL z;subst i;split at h
  ·rename_i s ty D q
   split at h
   ·split at h
    ·rename_i p
     split at h
     ·rename_i r
      simp only[an5,ao1,an2] at h;obtain⟨f,rfl⟩:=h;obtain⟨_,E⟩:=t.kept _ _ q;have j: ∀l:List Value,u8s l=true->∀v,v∈l->∃n,v= .int .u8 n:=by
       intro l;induction l with
       |nil=>intro _ v d;cases d
       | cons b l y=>
        intro k v d;match b,k with
        | .int .u8 m,k=>
         rcases List.mem_cons.1 d with rfl|d
         ·exact⟨m,rfl⟩
         ·exact y k v d
      obtain⟨n,A⟩:=j _ r s[off] (by simp);have c:C.w.cell? ⟨g,off,none⟩=some (.int .u8 n):=by
       grind [World.cell?]
      have B:Va C.P g off=n:=by
       unfold Va;rw[q];simp[f,A]
      refine⟨_,rfl,?_,rfl⟩;rw[B];have e:dJ C.P.toProgram T=false:=by simp[dJ,p]
      simp only[Instr.loadAt,Instr.sureAddr,Sem.run_bind,Sem.run_pure,Result.andThen_ok,loadVar,hG p,e,Bool.false_eq_true,if_false];exact lZ c
     ·cases h
    ·cases h
   ·cases h
  ·cases h
 ·cases h
theorem FN{E}(hE:qH E.P)(hp:Gw E){C}(K:C.P=E.P)(L:Inv C){s F}(e:dh C s F){o x}(h:bH E s o.op=some (true,x)):PE C.P C F o x:=by
 obtain⟨dst,op,type,pos,after,guard⟩:=o;simp only at h;have hE':qH C.P:=K▸hE;unfold bH at h;split at h
 ·
  rename_i y;simp only[an5,ao1,true_and] at h;subst h
  exact .inl ⟨_,rfl,bo e y⟩
 ·rename_i y
  simp only[an5,ao1,true_and] at h;subst h
  exact .inl ⟨_,rfl,bo e y⟩
 ·
  rename_i T y;split at h
  ·rename_i r Y
   simp only[an5] at h;subst h
   rw[←K] at Y;obtain⟨u,rfl,A,D⟩:=Kw L Y (bo e y);exact .inl ⟨u,ct A,aW D⟩
  split at h
  ·rename_i u Y
   simp only[an5,ao1,true_and] at h;subst h
   rw[←K] at Y;exact .inl ⟨u,ct (wO L Y (bo e y)).1,aW (wO L Y (bo e y)).2⟩
  ·rw[←K,←e.st] at h
   obtain⟨v,A,D⟩:=wZ L h (bo e y);exact .inl ⟨v,ct A,D⟩
 ·
  rename_i T y;rw[←K] at h;have B:=bo e y;unfold CQ at h;split at h
  ·cases h
  ·cases h
  ·rename_i d hni hd
   have J: ∀v,(Instr.makeInterface T v).run C.P C.w= .ok (.iface T v) C.w:=fun v=>by
    simp only[Instr.makeInterface,Sem.run_bind,run_underlying hd,Result.andThen_ok];cases d<;>first|rfl|exact absurd rfl (hni _)
   split at h
   ·rename_i v c
    cases h;rw[c] at B;have:=aL B
    exact .inl ⟨.iface T v,by rw[←this];exact ct (J _),aW rfl⟩
   ·cases h
   ·rename_i hne1 hne2
    cases h;refine .inl ⟨.iface T (F.eval y),ct (J _), .inl rfl, .inl rfl,?_⟩;simp only[M];refine⟨F.eval y,rfl,B.1.resolve_right hne2,B.2.1.resolve_right hne2,B.2.2⟩
 ·
  rename_i S T y;rw[←K] at h;have B:=bo e y;unfold Cs at h;split at h
  ·rename_i E hS hT
   split at h
   ·rename_i hE
    split at h
    ·rename_i hc
     have Q: ∀p n cap,F.eval y= .slice p n cap->(convert S T (F.eval y)).run C.P C.w=(Conv.bytesToString (F.eval y)).run C.P C.w:=fun p n cap N=>by
      rw[N];exact Go.run_convert_bytes_string C.w S T E p n cap hS hE hT
     split at h
     ·rename_i c
      cases h;rw[c] at B;have:=aL B
      refine .inl ⟨.string ⟨#[]⟩,ct ?_,aW rfl⟩;rw[Q _ _ _ this,this];rfl
     ·rename_i E' l c
      split at h
      ·rename_i hEE
       subst hEE;cases h;rw[c] at B;obtain⟨_,p,cap,N,_⟩:=nM B;refine .inl ⟨.string (bytesOf l),ct ?_,aW rfl⟩;rw[Q _ _ _ N];exact yP hE hc B
      ·cases h
     ·rename_i i lo n c
      split at h
      ·rename_i E' l hel
       split at h
       ·rename_i hEE
        subst hEE;cases h;rw[c] at B;have hel':ib (au C.st i)=some (E,l):=by rw[e.st];exact hel
        obtain⟨A,_⟩:=yn L hE hc hel' B;refine .inl ⟨.string (bytesOf ((l.drop lo).take n)),ct ?_,aW rfl⟩;obtain⟨hi,hsl⟩:=gj B;obtain⟨_,⟨_,N,_⟩|⟨_,cap,q,N,_⟩⟩:=hsl.1 E l hel'
        ·rw[Q _ _ _ N];exact A
        ·rw[Q _ _ _ N];exact A
       ·cases h
      ·cases h
     ·cases h
    ·cases h
   ·cases h
  ·unfold RN at h
   split at h
   ·rename_i d k k' n hS hT c
    cases h;rw[c] at B;have:=aL B
    refine .inl ⟨.int k (k.wrap n),ct ?_,aW rfl⟩;rw[this];simp only[convert,Sem.run_bind,run_underlying hS,run_underlying hT,Result.andThen_ok];rfl
   ·cases h
 ·
  rename_i y;have B:=bo e y;split at h
  ·rename_i i k p off c
   split at h
   ·rename_i hl
    simp only[an5,ao1,true_and] at h;subst h
    rw[c] at B;obtain⟨_,hp⟩:=lW B;obtain⟨b,o,N⟩:=xC (by rw[e.st];exact hl) hp;rw[N] at B;exact .inl ⟨_,by simp[execOp,N],B⟩
   ·simp at h
  ·rename_i T a c
   simp only[an5,ao1,true_and] at h;subst h
   rw[c] at B;obtain⟨b,o,N,_⟩:=Bu B;rw[N] at B;exact .inl ⟨_,by simp[execOp,N],B⟩
  ·rename_i f R c
   simp only[an5,ao1,true_and] at h;subst h
   rw[c] at B;obtain⟨vs,N,_⟩:=vv B;rw[N] at B;exact .inl ⟨_,by simp[execOp,N],B⟩
  ·simp at h
 ·
  rename_i op T y z T';split at h
  ·rename_i r U
   simp only[an5] at h;subst h;rw[←K] at U;obtain⟨v,A,D,rfl⟩:=Ji (ox:=y) U (bo e y);exact .inl ⟨v,ct A,D⟩
  ·split at h
   ·rename_i r U
    simp only[an5] at h;subst h;obtain⟨v,A,D⟩:=Ez (C:=C) (T:=T) (ox:=y) (oy:=z) (by first|exact U|(rw[K];exact U)) (bo e y) (bo e z);exact .inl ⟨v,ct A,D⟩
   ·obtain⟨v,A,D⟩:=IP (C:=C) (T:=T) (ox:=y) (oy:=z) h (bo e y) (bo e z)
    exact .inl ⟨v,ct A,D⟩
 ·
  rename_i op T y;have B:=bo e y;split at h
  ·rename_i b c
   simp only[an5,ao1,true_and] at h;subst h
   rw[c] at B;have:=aL B
   exact .inl ⟨.bool !b,by simp[execOp,this,Op.unary],aW rfl⟩
  ·rename_i k n c
   simp only[an5,ao1,true_and] at h;subst h
   rw[c] at B;have:=aL B
   exact .inl ⟨.int k (k.wrap (0 - n)),by simp[execOp,this,Op.unary,Op.intArith],aW rfl⟩
  ·simp at h
 ·
  rename_i T y lo hi;rw[←K] at h;obtain⟨v,A,D⟩:=DG L e h (bo e y);exact .inl ⟨v,ct A,D⟩
 ·
  rename_i T y lo hi m;rw[←K] at h;obtain⟨v,A,D⟩:=BS L e h (bo e y);exact .inl ⟨v,ct A,D⟩
 ·
  rename_i T y f;rw[←K,←e.st] at h;obtain⟨v,A,D⟩:=u5 L h (bo e y);exact .inl ⟨v,ct A,D⟩
 ·
  rename_i T y f;rw[←K] at h;obtain⟨v,A,D⟩:=Cu L h (bo e y);exact .inl ⟨v,ct A,D⟩
 ·
  rename_i T y i;rw[←K] at h;obtain⟨v,A,D⟩:=u9 L e.st h (bo e y) (bo e i);exact .inl ⟨v,ct A,D⟩
 ·
  rename_i T y i;rw[←K] at h;obtain⟨v,A,D⟩:=CF h (bo e y) (bo e i);exact .inl ⟨v,ct A,D⟩
 ·
  rename_i T m k ok;rw[←K] at h;obtain⟨v,A,D⟩:=AX L e.st h (bo e m) (bo e k);exact .inl ⟨v,ct A,D⟩
 ·
  rename_i y i;have B:=bo e y;split at h
  ·rename_i l c
   split at h
   ·rename_i hi
    simp only[an5,ao1,true_and] at h;subst h
    rw[c] at B;obtain⟨vs,N,hm⟩:=Bv B;obtain⟨v,A,D⟩:=Ex l vs.toList i hm hi;have X:vs[i]? =some v:=by simpa using A
    exact .inl ⟨v,by simp[execOp,N,Instr.extract,X],D⟩
   ·simp at h
  ·simp at h
 ·
  rename_i f first R;split at h
  ·rename_i hf
   simp only[an5,ao1,true_and] at h;subst h
   have hf':first= #[]:=by simpa using hf
   subst hf';refine .inl ⟨.func (.func f) #[] (R.map F.eval),by simp[execOp,Instr.makeFunc], .inl rfl, .inl rfl,?_⟩;simp only[M];exact⟨R.map F.eval,by simp[Value.cells],by simpa using vl e R.toList⟩
  ·simp at h
 ·
  rename_i T I;split at h
  ·rename_i sz l V
   split at h
   ·rename_i a U
    simp only[an5,ao1,true_and] at h;subst h
    rw[←K] at V;obtain⟨len,E,i,cs,dE,Y,hi,hzv,rfl,hE,hm⟩:=yN (C:=C) V;obtain⟨H,A,D⟩:=qL L e (place:=fun i=>some (i*C.P.cellsOf E,C.P.cellsOf E)) (fun _ _ h=>h) I.toList l cs _ U hm.1 hm.2;refine .inl ⟨.agg H,ct ?_,D⟩;have X:Instr.fill (fun x=>some (x*C.P.cellsOf E,C.P.cellsOf E)) cs (Array.map (fun x:Nat×Operand=>(x.1,F.eval x.2)) I).toList=some H:=by rw[Array.toList_map];exact A
    unfold Instr.build;simp only[Sem.run_bind,jq hi hzv,Result.andThen_ok,run_underlying Y,Value.cells,run_sizeOf hE,X,Sem.run_pure]
   ·simp at h
  split at h
  ·rename_i l V
   split at h
   ·rename_i a U
    simp only[an5,ao1,true_and] at h;subst h
    rw[←K] at V U;obtain⟨i,zv,hi,hzv,hrz,_,hpz⟩:=dY L V;obtain⟨cs,rfl,hsz,hm⟩:=sF hrz;simp only[bu] at hpz;obtain⟨fs,⟨hfs,_⟩,hpf⟩:=hpz;obtain⟨H,A,D⟩:=qL L e (place:=fun j=>((fs.map fun f=>(f.offset,C.P.cellsOf f.type)))[j]?) (Dh hfs) I.toList l cs _ U hm hsz;have hmap:=xR (P:=C.P) (w:=C.w) (g:=fun f:Field=>do pure (f.offset,←sizeOf f.type)) (r:=fun f=>(f.offset,C.P.cellsOf f.type)) fs (fun f hf=>by
     obtain⟨d,hd⟩:=uM _ _ hpf f (by simpa using hf);simp[run_sizeOf hd])
    have Z:(I.map fun x=>(x.1,F.eval x.2)).toList=I.toList.map fun p=>(p.1,F.eval p.2):=by simp
    refine .inl ⟨.agg H,ct ?_,D⟩;unfold Instr.build;simp only[Sem.run_bind,jq hi hzv,Result.andThen_ok,run_underlying hfs,Value.cells];rw[hmap];simp only[Result.andThen_ok];have X:Instr.fill (fun x=>(Array.map (fun f:Field=>(f.offset,C.P.cellsOf f.type)) fs)[x]?) cs (Array.map (fun x:Nat×Operand=>(x.1,F.eval x.2)) I).toList=some H:=by rw[Z];exact A
    simp only[X,Sem.run_pure]
   ·simp at h
  ·simp at h
 ·
  rename_i t ts;split at h
  ·rename_i a T tl c hts
   split at h
   ·rename_i y hl
    simp only[an5,ao1,true_and] at h;subst h
    obtain⟨z,V,rfl⟩:=GK c;have ha:t= #[z]:=by rw[←Array.toArray_toList (xs:=t),V]
    subst ha;have hts':ts[0]? =some T:=by rw[←Array.getElem?_toList,hts];rfl
    rw[←K,←e.st] at hl;obtain⟨v,A,D⟩:=Jq L (ty:=type) hts' hl (bo e z);exact .inl ⟨v,by simp[execOp,resolve,invoke,builtin,A],D⟩
   ·simp at h
  ·simp at h
 ·
  rename_i t ts;split at h
  ·rename_i k n k' m c
   split at h
   ·rename_i hk
    subst hk;simp only[an5,ao1,true_and] at h;subst h
    obtain⟨y,z,V,A,D⟩:=AA c;have ha:t= #[y,z]:=by rw[←Array.toArray_toList (xs:=t),V]
    subst ha;have r1:=bo e y;rw[A] at r1
    have r2:=bo e z;rw[D] at r2
    have e1:=aL r1;have e2:=aL r2;exact .inl ⟨_,by simp[execOp,resolve,invoke,builtin,Builtin.min_,Builtin.min2,e1,e2],aW rfl⟩
   ·simp at h
  ·simp at h
 ·
  rename_i t ts;split at h
  ·rename_i k n k' m c
   split at h
   ·rename_i hk
    subst hk;simp only[an5,ao1,true_and] at h;subst h
    obtain⟨y,z,V,A,D⟩:=AA c;have ha:t= #[y,z]:=by rw[←Array.toArray_toList (xs:=t),V]
    subst ha;have r1:=bo e y;rw[A] at r1
    have r2:=bo e z;rw[D] at r2
    have e1:=aL r1;have e2:=aL r2;exact .inl ⟨_,by simp[execOp,resolve,invoke,builtin,Builtin.max_,Builtin.max2,e1,e2],aW rfl⟩
   ·simp at h
  ·simp at h
 ·
  rename_i f t ts;split at h
  ·rename_i as hpa
   rw[←e.st] at hpa;have hmt:=uN L _ as _ hpa (vl e t.toList);have W:=vm (ue L) (mN E.P f) as _ hmt;rw[show C.still.P=E.P from K] at W;obtain⟨fn,hf,U,⟨u,rfl,Y,O⟩|⟨hl,hx,O⟩⟩:=hp f _ x h
   ·have J:=O C.still (t.map F.eval) K (ue L) (by simpa using W)
    rw[←K] at hf J;refine .inr (.inl ⟨f,t.map F.eval,u,?_,rfl,Y,J⟩);simp[execOp,resolve,Deferred.ofValue,invoke,Act.eval,kC hE' hf U]
   ·have hmt3:=Ag (C':=C) _ _ hl W
    have J:=O C (t.map F.eval) K L (by simpa using hmt3);rw[←K] at hf J;refine .inr (.inr ⟨f,t.map F.eval,?_,hx,J⟩);simp[execOp,resolve,Deferred.ofValue,invoke,Act.eval,kC hE' hf U]
  ·simp at h
 ·simp at h
end Go.Dn
