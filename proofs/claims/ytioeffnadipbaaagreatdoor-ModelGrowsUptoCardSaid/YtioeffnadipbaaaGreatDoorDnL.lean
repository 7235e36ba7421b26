import Derived.Test.YtioeffnadipbaaaGreatDoorDnK
namespace Go.Dn
open Go
structure qi(P:Program):Prop where
 lay:eV P
 names: ∀(f:Nat) (fn:Func),P.funcs[f]? =some fn->(fn.name== "runtime.NumGoroutine")=false
 mixed:P.follows .mixedOrders=true
structure hJ(w w':World):Prop where
 size:w.heap.size<=w'.heap.size
 os:w'.os=w.os
 tape:w'.tape=w.tape
 output:w'.output=w.output
 heap: ∀b,b<w.heap.size->w'.heap[b]? =w.heap[b]?
theorem hJ.refl w:hJ w w:=⟨Nat.le_refl _,rfl,rfl,rfl,by simp⟩
theorem hJ.trans{a b c}(h:hJ a b)(k:hJ b c):hJ a c:=
 ⟨Nat.le_trans h.size k.size,k.os.trans h.os,k.tape.trans h.tape,k.output.trans h.output,fun i d=>(k.heap i (by have:=h.size;omega)).trans (h.heap i d)⟩
def wT:List AV->Bool
 |[]=>true
 | .lit v::l=>bg v&&wT l
 |_::_=>false
def Ctx.bare(C:Ctx):={C with X:=fun b=>(C.P.kept b).isSome=true,st:=[],ι:=fun _=>⟨0,0,true⟩,cls:=id}
theorem Mo{C}(a:Inv C):Inv C.bare:=by
 refine⟨a.lay,fun i d=>by grind [Ctx.bare],fun i j d=>by grind [Ctx.bare],fun b c=>?_,fun i d=>by grind [Ctx.bare],fun b c=>absurd rfl c,fun b o h=>?_⟩
 ·obtain⟨o,h⟩:=Option.isSome_iff_exists.1 c
  exact a.xs b (a.kept b o h).1
 ·exact⟨by show(C.P.kept b).isSome=true;rw[show C.P.kept b=some o from h];rfl,(a.kept b o h).2⟩
theorem Ac{C C'}: ∀l vs,wT l=true->MT C l vs->MT C' l vs
 |[],vs,_,h=>by grind [MT]
 | .lit u::l,[],_,h=>by grind [MT]
 | .lit u::l,v::vs,hl,h=>by
  simp[wT] at hl;exact⟨h.1,h.2.1,h.2.2.1,Ac l _ hl.2 h.2.2.2⟩
 | .cB::_,_,hl,_| .ah _ _::_,_,hl,_| .agg _::_,_,hl,_| .aH _::_,_,hl,_| .ak _ _ _::_,_,hl,_| .ptr _ _ _ _::_,_,hl,_| .jj _ _::_,_,hl,_| .mp _::_,_,hl,_
 | .cf _::_,_,hl,_| .lj _ _::_,_,hl,_| .bm _ _::_,_,hl,_| .jt _ _::_,_,hl,_| .eO _ _ _ _::_,_,hl,_=>by grind [wT]
def Hg P f(C:Ctx) b x:=
 CallsIn Fence.wide 0 P f b C.w fun e c=>∃v a,e= .returned v/\a.w=c/\a.P=C.P/\Inv a/\Rel a x v/\Ext 0 C.bare a
def Hm(E:Env):=
 ∀ f b x,E.gV f b=some (true,x)->∃c,E.P.funcs[f]? =some c/\c.body.isSome=true/\
  ((∃u,x= .lit u/\bg u=true/\
   ∀C a,C.P=E.P->Inv C->MT C b a.toList->CallsIn Fence.wide 0 E.P f a C.w fun e d=>e= .returned u/\hJ C.w d)\/
   wT b=true/\refs x=[]/\∀C a,C.P=E.P->Inv C->MT C b a.toList->Hg E.P f C a x)
theorem kr{P}(d:qi P){w f b}(e:P.funcs[f]? =some b)(g:b.body.isSome=true) a:
  (callFunc f a).run P w= .ok (.enter f a) w:=by
 have h:=d.names f _ e;have c: ¬ b.body=none:=by grind
 simp_all[callFunc]
theorem uX{C s a}(b:db C s a): ∀l,MT C (oi s l) (l.map a.eval)
 |[]=>by rfl
 |x::l=>by
  have:=bt b x
  exact⟨this.1,this.2.1,this.2.2,uX b l⟩
theorem KD{C}(c:Inv C){a b v}(h:rQ C.st a=some b)(n:Rel C a v):Rel C.still b v:=by
 have d:cg C.st a=some b->Rel C.still b v:=fun f=>by
  obtain⟨z,x,I,H⟩:=iN a b f;have s:a≠ .cB:=by intro e;subst e;simp[cg] at f
  exact⟨.inl (by rw[z];exact n.1.resolve_right s), .inl (by rw[x];exact n.2.1.resolve_right s),va c (lT c) rfl a b _ _ f (fun i _ o A=>Rx c o A) n.2.2⟩
 unfold rQ at h;split at h
 ·rename_i i k m
  split at h
  ·rename_i T E J K g
   simp only[ar7] at h;subst h
   obtain⟨o,y⟩:=fP n;have l:=(y.2 _ _ _ _ g).2;have j:=c.obj i o;rw[g] at j;obtain⟨_,_,B,r,_⟩:=j;obtain⟨p,cap,rfl,f,t,u,D⟩:=Eh B (r k) l;refine⟨.inl rfl, .inl rfl,?_⟩;simp only[M];refine⟨u,p,cap,by rw[t];rfl,by rw[t];exact f,fun F=>?_⟩;obtain⟨b,rfl,q,w⟩:=D (by grind);exact⟨b,0,rfl,q,fJ (lT c) c.lay _ E _ _ _ _ u (fun _ _=>rfl) w⟩
  ·exact d h
 ·exact d h
theorem uk{C}(e:Inv C): ∀l m d,fz C.st l=some m->MT C l d->MT C.still m d
 |[],m,d,h,c=>by grind [fz,MT]
 |_::_,_,[],_,c=>by grind [MT]
 | a::l,m,v::d,h,c=>by
  simp[fz] at h;split at h
  ·rename_i b i g f
   simp   at h;subst h
   have:=KD e g ⟨c.1,c.2.1,c.2.2.1⟩
   exact⟨this.1,this.2.1,this.2.2,uk e l _ d f c.2.2.2⟩
  grind
theorem ET{C}: ∀l b i,MT C l b->i<l.length->∃v,b[i]? =some v/\Rel C (nth l i) v
 |[],_,_,_,h=>by grind
 |_::_,[],_,h,_=>by grind [MT]
 |a::l,v::b,0,h,_=>by exact⟨v,rfl,h.1,h.2.1,h.2.2.1⟩
 |a::l,v::b,i+1,h,c=>by
  simpa[nth] using ET l _ i h.2.2.2 (by grind)
theorem pg{C}: ∀l b,MT C l b->b.length=l.length
 |[],b,h=>by grind [MT]
 |_::_,[],h=>by grind [MT]
 |a::l,v::b,h=>by simp[pg l _ h.2.2.2]
theorem IY{C i lo n v}(h:lv C i lo n v)(f:R4 (ay C.st i)=true):v= .slice none 0 0/\n=0\/ ∃q cap,v= .slice (some q) n cap:=by
 have a: ∀T xs,gX _=some (T,xs)->(v= .slice none 0 0/\n=0)\/ ∃q cap,v= .slice (some q) n cap:=fun T xs e=>by
  rcases(h.1 T xs e).2 with⟨_,rfl,_,rfl⟩|⟨_,cap,q,rfl,_⟩
  ·simp
  simp
 cases d:ay C.st i<;>rw[d] at f<;>simp[R4] at f
 ·exact a _ _ (by rw[d];rfl)
 ·exact a _ _ (by rw[d];rfl)
 ·have g:=h.2 _ _ _ _ d
  cases lo with
  |zero=>grind
  |succ k=>
   rcases g.2.2 with⟨rfl,rfl⟩|⟨b,cap,c,rfl,_⟩
   ·simp
   simp
theorem Kd{C}(A:Inv C){T ty y}(d:y[0]? =some T){a x z}(h:AK C.P C.st T a=some x)(j:Rel C a z):
  ∃v,(Builtin.len_ y ty #[z]).run C.P C.w= .ok v C.w/\Rel C x v:=by
 unfold AK at h;split at h
 ·rename_i e
  simp only[ar7] at h;subst h
  have:=aX j;subst this
  exact⟨_,by simp[Builtin.len_,d,run_underlying e,goInt],a7 rfl⟩
 ·rename_i e
  simp only[ar7] at h;subst h
  have:=aX j;subst this
  exact⟨_,by simp[Builtin.len_,d,run_underlying e,goInt],a7 rfl⟩
 ·rename_i i e
  split at h
  ·rename_i K V g m
   simp only[ar7] at h;subst h
   obtain⟨B,s⟩:=tk j;have:=s K V g m;subst this
   obtain⟨f,k,t,o,r⟩:=nh A B m;have D: ∀(g:List (Value×AV)) (c:List MapEntry),cw C V g c->g.length=c.length:=by
    intro g;induction g with
    |nil=>intro c h;cases c<;>simp_all[cw]
    |cons x g E=>intro c h;cases c<;>simp_all[cw];exact E _ h.2.2.2
   have:=D g _ o
   refine⟨.int .i64 f.size,by simp[Builtin.len_,d,run_underlying e,run_getObj_map t,goInt],?_⟩;rw[this];simpa using a7 rfl
  ·simp at h
 ·rename_i e
  simp only[ar7] at h;subst h
  have:=aX j;subst this
  exact⟨_,by simp[Builtin.len_,d,run_underlying e,goInt],a7 rfl⟩
 ·rename_i i lo n e
  split at h
  ·rename_i u
   simp only[ar7] at h;subst h
   rcases IY (fP j).2 u with⟨rfl,rfl⟩|⟨q,cap,rfl⟩
   ·exact⟨_,by simp[Builtin.len_,d,run_underlying e,goInt],a7 rfl⟩
   ·exact⟨_,by simp[Builtin.len_,d,run_underlying e,goInt],a7 rfl⟩
  ·simp at h
 ·rename_i K V H I e
  simp only[ar7] at h;subst h
  rcases ve j with⟨_,rfl,rfl,rfl⟩|⟨b,c,k,rfl,_,t,r,rfl,J,F⟩
  ·exact⟨_,by simp[Builtin.len_,d,run_underlying e,goInt],a7 rfl⟩
  ·refine⟨.int .i64 c.size,by simp[Builtin.len_,d,run_underlying e,run_getObj_map t,goInt],?_⟩
   simpa using a7 rfl
 ·rename_i L l e
  simp only[ar7] at h;subst h
  obtain⟨_,p,cap,rfl,_⟩:=nt j;exact⟨_,by simp[Builtin.len_,d,run_underlying e,goInt],a7 rfl⟩
 ·simp at h
theorem yU{C}(c:Inv C){T a v}(b:Rel C a v):Rel C (HE C.P T a) v:=by
 unfold HE;split
 ·split
  ·split
   ·rename_i h;exact(eS c (ib _ _ _ _ h b.2.2) b).1
   omega
  ·exact b
 ·split
  ·split
   ·rename_i h;exact(eS c (ib _ _ _ _ h b.2.2) b).1
   ·exact b
  omega
 ·exact b
theorem uY{C}(c:Inv C): ∀Ts l b,MT C l b->MT C (rm C.P Ts l) b
 |[],l,b,h=>by cases l<;>exact h
 |_::_,[],b,h=>by grind [rm]
 |T::Ts,a::l,[],h=>by grind [MT]
 |T::Ts,a::l,v::b,h=>by
  have:=yU c (T:=T)   ⟨h.1,h.2.1,h.2.2.1⟩
  exact⟨this.1,this.2.1,this.2.2,uY c _ l _ h.2.2.2⟩
def QU P C(b:Act) o x:=
 (∃v,(execOp b.eval o).run P C.w= .ok (.value v) C.w/\Rel C x v)\/
 (∃f a u,(execOp b.eval o).run P C.w= .ok (.enter f a) C.w/\x= .lit u/\bg u=true/\
  CallsIn Fence.wide 0 P f a C.w fun e c=>e= .returned u/\hJ C.w c)\/
 ∃f a,(execOp b.eval o).run P C.w= .ok (.enter f a) C.w/\refs x=[]/\Hg P f C a x
theorem Hy{s l a}(h:oi s l=[a]): ∃x,l=[x]/\ev s x=a:=by
 match l,h with
 |[x],h=>grind [oi]
 |[],h=>grind [oi]
 |_::_::_,h=>grind [oi]
theorem Aq{s l a b}(h:oi s l=[a,b]): ∃x y,l=[x,y]/\ev s x=a/\ev s y=b:=by
 match l,h with
 |[x,y],h=>grind [oi]
 |[],h=>grind [oi]
 |[_],h=>grind [oi]
 |_::_::_::_,h=>grind [oi]
theorem qc{P w}{α β:Type}{g:α->Sem β}{r}: ∀(l:List _),(∀x,x∈l->(g x).run P w= .ok (r x) w)->(l.mapM g).run P w= .ok (l.map r) w
 |[],_=>by rfl
 |a::l,h=>by
  simp[h a _,qc l fun x b=>h x (by grind)]
theorem xO{P w}{α β:Type}{g:α->Sem β}{r}(l:Array _)(h: ∀x,x∈l->(g x).run P w= .ok (r x) w):(l.mapM g).run P w= .ok (l.map r) w:=by
 rw[Array.mapM_eq_mapM_toList,Sem.run_map,qc _ fun x a=>h x (by grind)];simp
 grind
theorem jF{P a T}(h:bB P a T): ∃d,P.underlying T=some d:=by
 cases b:P.underlying T with
 |none=>cases a<;>simp[bB,b] at h
 |some d=>simp
theorem uj{P}: ∀l c,dW P l c->∀f,f∈c->∃d,P.underlying f.type=some d
 |[],[],_,_,h=>by grind
 |[],_::_,h,_,_=>by grind [dW]
 |_::_,[],h,_,_=>by grind
 |a::l,g::c,h,f,b=>by
  simp   at b;rcases b with rfl|b
  ·exact jF h.1
  ·exact uj l _ h.2 f b
theorem cq{P w x v}(h:x.run P w= .ok v w):(do pure (Next.value (←x)):Sem _).run P w= .ok (.value v) w:=by
 simp[h]
theorem wM{C}(j:Inv C){T a u f}(h:Nc C.P T a=some u)(k:Rel C a f):(Instr.loadAt T f).run C.P C.w= .ok u C.w/\bg u=true:=by
 unfold Nc at h;split at h
 ·rename_i g
  have c:=aX k;subst c;split at h
  ·rename_i l ty q n
   split at h
   ·rename_i v e
    split at h
    ·rename_i i
     simp only[ar7] at h;subst h;simp only[ar5,Bool.not_eq_true'] at i;obtain⟨⟨m,o⟩,p⟩:=i;obtain⟨d,hd⟩:=Option.isSome_iff_exists.1 p;obtain⟨_,r⟩:=j.kept _ _ n;have b:C.w.cell? ⟨g,0,none⟩=some v:=by
      have:l[0]? =some v:=by rw[←Array.getElem?_toList,e];rfl
      grind [World.cell?]
     refine⟨?_,m⟩;simp only[Instr.loadAt,Instr.sureAddr,Sem.run_bind,Sem.run_pure,Result.andThen_ok,loadVar,gQ hd,o,if_false];exact lQ b
    ·cases h
   ·cases h
  ·cases h
 ·cases h
theorem Ld{C}(t:Inv C){T a x o}(h:W5 C.P T a=some (true,x))(z:Rel C a o): ∃u,x= .lit u/\(Instr.loadAt T o).run C.P C.w= .ok u C.w/\bg u=true:=by
 unfold W5 at h;split at h
 ·rename_i g off
  have i:=aX z;subst i;split at h
  ·rename_i s ty D q
   split at h
   ·split at h
    ·rename_i p
     split at h
     ·rename_i r
      simp only[ar7,as3,ar4] at h;obtain⟨f,rfl⟩:=h;obtain⟨_,E⟩:=t.kept _ _ q;have j: ∀l:List Value,u8s l=true->∀v,v∈l->∃n,v= .int .u8 n:=by
       intro l;induction l with
       |nil=>intro _ v d;cases d
       | cons b l y=>
        intro k v d;match b,k with
        | .int .u8 m,k=>
         rcases List.mem_cons.1 d with rfl|d
         ·exact⟨m,rfl⟩
         ·exact y k v d
      obtain⟨n,A⟩:=j _ r s[off] (by simp);have c:C.w.cell? ⟨g,off,none⟩=some (.int .u8 n):=by
       grind [World.cell?]
      have B:W6 C.P g off=n:=by
       unfold W6;rw[q];simp[f,A]
      refine⟨_,rfl,?_,rfl⟩;rw[B];have e:dH C.P.toProgram T=false:=by simp[dH,p]
      simp only[Instr.loadAt,Instr.sureAddr,Sem.run_bind,Sem.run_pure,Result.andThen_ok,loadVar,gQ p,e,Bool.false_eq_true,if_false];exact lQ c
     ·cases h
    ·cases h
   ·cases h
  ·cases h
 ·cases h
theorem Gk{E}(hE:qi E.P)(hp:Hm E){C}(K:C.P=E.P)(L:Inv C){s F}(e:db C s F){o x}(h:bJ E s o.op=some (true,x)):QU C.P C F o x:=by
 obtain⟨dst,op,type,pos,after,guard⟩:=o;simp only at h;have hE':qi C.P:=K▸hE;unfold bJ at h;split at h
 ·
  rename_i y;simp only[ar7,as3,true_and] at h;subst h
  exact .inl ⟨_,rfl,bt e y⟩
 ·rename_i y
  simp only[ar7,as3,true_and] at h;subst h
  exact .inl ⟨_,rfl,bt e y⟩
 ·
  rename_i T y;split at h
  ·rename_i r Y
   simp only[ar7] at h;subst h
   rw[←K] at Y;obtain⟨u,rfl,A,D⟩:=Ld L Y (bt e y);exact .inl ⟨u,cq A,a7 D⟩
  split at h
  ·rename_i u Y
   simp only[ar7,as3,true_and] at h;subst h
   rw[←K] at Y;exact .inl ⟨u,cq (wM L Y (bt e y)).1,a7 (wM L Y (bt e y)).2⟩
  ·rw[←K,←e.st] at h
   obtain⟨v,A,D⟩:=wU L h (bt e y);exact .inl ⟨v,cq A,D⟩
 ·
  rename_i T y;rw[←K] at h;have B:=bt e y;unfold C6 at h;split at h
  ·cases h
  ·cases h
  ·rename_i d hni hd
   have J: ∀v,(Instr.makeInterface T v).run C.P C.w= .ok (.iface T v) C.w:=fun v=>by
    simp only[Instr.makeInterface,Sem.run_bind,run_underlying hd,Result.andThen_ok];cases d<;>first|rfl|exact absurd rfl (hni _)
   split at h
   ·rename_i v c
    cases h;rw[c] at B;have:=aX B
    exact .inl ⟨.iface T v,by rw[←this];exact cq (J _),a7 rfl⟩
   ·cases h
   ·rename_i hne1 hne2
    cases h;refine .inl ⟨.iface T (F.eval y),cq (J _), .inl rfl, .inl rfl,?_⟩;simp only[M];refine⟨F.eval y,rfl,B.1.resolve_right hne2,B.2.1.resolve_right hne2,B.2.2⟩
 ·
  rename_i S T y;rw[←K] at h;have B:=bt e y;unfold Cv at h;split at h
  ·rename_i E hS hT
   split at h
   ·rename_i hE
    split at h
    ·rename_i hc
     have Q: ∀p n cap,F.eval y= .slice p n cap->(convert S T (F.eval y)).run C.P C.w=(Conv.bytesToString (F.eval y)).run C.P C.w:=fun p n cap N=>by
      rw[N];exact Go.run_convert_bytes_string C.w S T E p n cap hS hE hT
     split at h
     ·rename_i c
      cases h;rw[c] at B;have:=aX B
      refine .inl ⟨.string ⟨#[]⟩,cq ?_,a7 rfl⟩;rw[Q _ _ _ this,this];rfl
     ·rename_i E' l c
      split at h
      ·rename_i hEE
       subst hEE;cases h;rw[c] at B;obtain⟨_,p,cap,N,_⟩:=nt B;refine .inl ⟨.string (bytesOf l),cq ?_,a7 rfl⟩;rw[Q _ _ _ N];exact yL hE hc B
      ·cases h
     ·rename_i i lo n c
      split at h
      ·rename_i E' l hel
       split at h
       ·rename_i hEE
        subst hEE;cases h;rw[c] at B;have hel':gX (ay C.st i)=some (E,l):=by rw[e.st];exact hel
        obtain⟨A,_⟩:=yl L hE hc hel' B;refine .inl ⟨.string (bytesOf ((l.drop lo).take n)),cq ?_,a7 rfl⟩;obtain⟨hi,hsl⟩:=fP B;obtain⟨_,⟨_,N,_⟩|⟨_,cap,q,N,_⟩⟩:=hsl.1 E l hel'
        ·rw[Q _ _ _ N];exact A
        ·rw[Q _ _ _ N];exact A
       ·cases h
      ·cases h
     ·cases h
    ·cases h
   ·cases h
  ·unfold Td at h
   split at h
   ·rename_i d k k' n hS hT c
    cases h;rw[c] at B;have:=aX B
    refine .inl ⟨.int k (k.wrap n),cq ?_,a7 rfl⟩;rw[this];simp only[convert,Sem.run_bind,run_underlying hS,run_underlying hT,Result.andThen_ok];rfl
   ·cases h
 ·
  rename_i y;have B:=bt e y;split at h
  ·rename_i i k p off c
   split at h
   ·rename_i hl
    simp only[ar7,as3,true_and] at h;subst h
    rw[c] at B;obtain⟨_,hp⟩:=lM B;obtain⟨b,o,N⟩:=xx (by rw[e.st];exact hl) hp;rw[N] at B;exact .inl ⟨_,by simp[execOp,N],B⟩
   ·simp at h
  ·rename_i T a c
   simp only[ar7,as3,true_and] at h;subst h
   rw[c] at B;obtain⟨b,o,N,_⟩:=Bt B;rw[N] at B;exact .inl ⟨_,by simp[execOp,N],B⟩
  ·rename_i f R c
   simp only[ar7,as3,true_and] at h;subst h
   rw[c] at B;obtain⟨vs,N,_⟩:=vd B;rw[N] at B;exact .inl ⟨_,by simp[execOp,N],B⟩
  ·simp at h
 ·
  rename_i op T y z T';split at h
  ·rename_i r U
   simp only[ar7] at h;subst h;rw[←K] at U;obtain⟨v,A,D,rfl⟩:=J4 (ox:=y) U (bt e y);exact .inl ⟨v,cq A,D⟩
  ·split at h
   ·rename_i r U
    simp only[ar7] at h;subst h;obtain⟨v,A,D⟩:=E1 (C:=C) (T:=T) (ox:=y) (oy:=z) (by first|exact U|(rw[K];exact U)) (bt e y) (bt e z);exact .inl ⟨v,cq A,D⟩
   ·obtain⟨v,A,D⟩:=Jy (C:=C) (T:=T) (ox:=y) (oy:=z) h (bt e y) (bt e z)
    exact .inl ⟨v,cq A,D⟩
 ·
  rename_i op T y;have B:=bt e y;split at h
  ·rename_i b c
   simp only[ar7,as3,true_and] at h;subst h
   rw[c] at B;have:=aX B
   exact .inl ⟨.bool !b,by simp[execOp,this,Op.unary],a7 rfl⟩
  ·rename_i k n c
   simp only[ar7,as3,true_and] at h;subst h
   rw[c] at B;have:=aX B
   exact .inl ⟨.int k (k.wrap (0 - n)),by simp[execOp,this,Op.unary,Op.intArith],a7 rfl⟩
  ·simp at h
 ·
  rename_i T y lo hi;rw[←K] at h;obtain⟨v,A,D⟩:=DZ L e h (bt e y);exact .inl ⟨v,cq A,D⟩
 ·
  rename_i T y lo hi m;rw[←K] at h;obtain⟨v,A,D⟩:=BS L e h (bt e y);exact .inl ⟨v,cq A,D⟩
 ·
  rename_i T y f;rw[←K,←e.st] at h;obtain⟨v,A,D⟩:=uA L h (bt e y);exact .inl ⟨v,cq A,D⟩
 ·
  rename_i T y f;rw[←K] at h;obtain⟨v,A,D⟩:=Cy L h (bt e y);exact .inl ⟨v,cq A,D⟩
 ·
  rename_i T y i;rw[←K] at h;obtain⟨v,A,D⟩:=uF L e.st h (bt e y) (bt e i);exact .inl ⟨v,cq A,D⟩
 ·
  rename_i T y i;rw[←K] at h;obtain⟨v,A,D⟩:=CP h (bt e y) (bt e i);exact .inl ⟨v,cq A,D⟩
 ·
  rename_i T m k ok;rw[←K] at h;obtain⟨v,A,D⟩:=AQ L e.st h (bt e m) (bt e k);exact .inl ⟨v,cq A,D⟩
 ·
  rename_i y i;have B:=bt e y;split at h
  ·rename_i l c
   split at h
   ·rename_i hi
    simp only[ar7,as3,true_and] at h;subst h
    rw[c] at B;obtain⟨vs,N,hm⟩:=Bu B;obtain⟨v,A,D⟩:=ET l vs.toList i hm hi;have X:vs[i]? =some v:=by simpa using A
    exact .inl ⟨v,by simp[execOp,N,Instr.extract,X],D⟩
   ·simp at h
  ·simp at h
 ·
  rename_i f first R;split at h
  ·rename_i hf
   simp only[ar7,as3,true_and] at h;subst h
   have hf':first= #[]:=by simpa using hf
   subst hf';refine .inl ⟨.func (.func f) #[] (R.map F.eval),by simp[execOp,Instr.makeFunc], .inl rfl, .inl rfl,?_⟩;simp only[M];exact⟨R.map F.eval,by simp[Value.cells],by simpa using uX e R.toList⟩
  ·simp at h
 ·
  rename_i T I;split at h
  ·rename_i sz l V
   split at h
   ·rename_i a U
    simp only[ar7,as3,true_and] at h;subst h
    rw[←K] at V;obtain⟨len,E,i,cs,dE,Y,hi,hzv,rfl,hE,hm⟩:=yI (C:=C) V;obtain⟨H,A,D⟩:=ql L e (place:=fun i=>some (i*C.P.cellsOf E,C.P.cellsOf E)) (fun _ _ h=>h) I.toList l cs _ U hm.1 hm.2;refine .inl ⟨.agg H,cq ?_,D⟩;have X:Instr.fill (fun x=>some (x*C.P.cellsOf E,C.P.cellsOf E)) cs (Array.map (fun x:Nat×Operand=>(x.1,F.eval x.2)) I).toList=some H:=by rw[Array.toList_map];exact A
    unfold Instr.build;simp only[Sem.run_bind,jm hi hzv,Result.andThen_ok,run_underlying Y,Value.cells,run_sizeOf hE,X,Sem.run_pure]
   ·simp at h
  split at h
  ·rename_i l V
   split at h
   ·rename_i a U
    simp only[ar7,as3,true_and] at h;subst h
    rw[←K] at V U;obtain⟨i,zv,hi,hzv,hrz,_,hpz⟩:=dT L V;obtain⟨cs,rfl,hsz,hm⟩:=rW hrz;simp only[bB] at hpz;obtain⟨fs,⟨hfs,_⟩,hpf⟩:=hpz;obtain⟨H,A,D⟩:=ql L e (place:=fun j=>((fs.map fun f=>(f.offset,C.P.cellsOf f.type)))[j]?) (Dz hfs) I.toList l cs _ U hm hsz;have hmap:=xO (P:=C.P) (w:=C.w) (g:=fun f:Field=>do pure (f.offset,←sizeOf f.type)) (r:=fun f=>(f.offset,C.P.cellsOf f.type)) fs (fun f hf=>by
     obtain⟨d,hd⟩:=uj _ _ hpf f (by simpa using hf);simp[run_sizeOf hd])
    have Z:(I.map fun x=>(x.1,F.eval x.2)).toList=I.toList.map fun p=>(p.1,F.eval p.2):=by simp
    refine .inl ⟨.agg H,cq ?_,D⟩;unfold Instr.build;simp only[Sem.run_bind,jm hi hzv,Result.andThen_ok,run_underlying hfs,Value.cells];rw[hmap];simp only[Result.andThen_ok];have X:Instr.fill (fun x=>(Array.map (fun f:Field=>(f.offset,C.P.cellsOf f.type)) fs)[x]?) cs (Array.map (fun x:Nat×Operand=>(x.1,F.eval x.2)) I).toList=some H:=by rw[Z];exact A
    simp only[X,Sem.run_pure]
   ·simp at h
  ·simp at h
 ·
  rename_i t ts;split at h
  ·rename_i a T tl c hts
   split at h
   ·rename_i y hl
    simp only[ar7,as3,true_and] at h;subst h
    obtain⟨z,V,rfl⟩:=Hy c;have ha:t= #[z]:=by rw[←Array.toArray_toList (xs:=t),V]
    subst ha;have hts':ts[0]? =some T:=by rw[←Array.getElem?_toList,hts];rfl
    rw[←K,←e.st] at hl;obtain⟨v,A,D⟩:=Kd L (ty:=type) hts' hl (bt e z);exact .inl ⟨v,by simp[execOp,resolve,invoke,builtin,A],D⟩
   ·simp at h
  ·simp at h
 ·
  rename_i t ts;split at h
  ·rename_i k n k' m c
   split at h
   ·rename_i hk
    subst hk;simp only[ar7,as3,true_and] at h;subst h
    obtain⟨y,z,V,A,D⟩:=Aq c;have ha:t= #[y,z]:=by rw[←Array.toArray_toList (xs:=t),V]
    subst ha;have r1:=bt e y;rw[A] at r1
    have r2:=bt e z;rw[D] at r2
    have e1:=aX r1;have e2:=aX r2;exact .inl ⟨_,by simp[execOp,resolve,invoke,builtin,Builtin.min_,Builtin.min2,e1,e2],a7 rfl⟩
   ·simp at h
  ·simp at h
 ·
  rename_i t ts;split at h
  ·rename_i k n k' m c
   split at h
   ·rename_i hk
    subst hk;simp only[ar7,as3,true_and] at h;subst h
    obtain⟨y,z,V,A,D⟩:=Aq c;have ha:t= #[y,z]:=by rw[←Array.toArray_toList (xs:=t),V]
    subst ha;have r1:=bt e y;rw[A] at r1
    have r2:=bt e z;rw[D] at r2
    have e1:=aX r1;have e2:=aX r2;exact .inl ⟨_,by simp[execOp,resolve,invoke,builtin,Builtin.max_,Builtin.max2,e1,e2],a7 rfl⟩
   ·simp at h
  ·simp at h
 ·
  rename_i f t ts;split at h
  ·rename_i as hpa
   rw[←e.st] at hpa;have hmt:=uk L _ as _ hpa (uX e t.toList);have W:=uY (tE L) (mA E.P f) as _ hmt;rw[show C.still.P=E.P from K] at W;obtain⟨fn,hf,U,⟨u,rfl,Y,O⟩|⟨hl,hx,O⟩⟩:=hp f _ x h
   ·have J:=O C.still (t.map F.eval) K (tE L) (by simpa using W)
    rw[←K] at hf J;refine .inr (.inl ⟨f,t.map F.eval,u,?_,rfl,Y,J⟩);simp[execOp,resolve,Deferred.ofValue,invoke,Act.eval,kr hE' hf U]
   ·have hmt3:=Ac (C':=C) _ _ hl W
    have J:=O C (t.map F.eval) K L (by simpa using hmt3);rw[←K] at hf J;refine .inr (.inr ⟨f,t.map F.eval,?_,hx,J⟩);simp[execOp,resolve,Deferred.ofValue,invoke,Act.eval,kr hE' hf U]
  ·simp at h
 ·simp at h
end Go.Dn
