import Derived.Test.YtioeffnadipbaaaGreatDoorDnF
namespace Go.Dn
open Go
theorem oX: ∀l j,qY l j=l[j]?
 |[],_=>by rfl
 |_::_,0=>by rfl
 |_::l,j+1=>by simp[qY,oX l j]
theorem oW{P T j a}(h:qY (fieldsOf P T) j=some a):
  ∃b,P.underlying T=some (.struct b)/\b[j]? =some a:=by
 grind [fieldsOf,oX]
theorem EF{P:Program}{T}(h:P.cellsOf T≠0): ∃i,P.info? T=some i/\i.size=P.cellsOf T:=by
 unfold Program.cellsOf at h⊢;cases a:P.info? T<;>grind
theorem Du{P w T}(h:P.cellsOf T≠0):(sizeOf T).run P w= .ok (P.cellsOf T) w:=by
 obtain⟨i,b,a⟩:=EF h
 simp_all[sizeOf,typeInfo]
theorem xC{C i k off v}(g:iR C.st i=true)(d:ql C i k off v): ∃b o,v= .pointer (some ⟨b,o,none⟩):=by
 unfold iR at g;cases c:au C.st i with
 |box f a=>obtain⟨_,rfl⟩:=d.2.1 f a c;simp
 |row e xs=>obtain⟨_,rfl⟩:=d.1 e xs (by rw[c];rfl);simp
 |lD e xs=>obtain⟨_,rfl⟩:=d.1 e xs (by rw[c];rfl);simp
 |dead=>grind
 |map _ _ _=>grind
 |loop _=>grind
 |iter _ _ _=>grind
 |ext _=>grind
 |dy _ _=>grind
 |rows _ _ _ _=>grind
 |fit _ _ _ _ _=>grind
theorem u5{C}(s:Inv C){T p x f c J}(h:gP C.P C.st T p f=some (c,x))(H:Rel C p J):
  ∃v,(Instr.fieldAt T J f).run C.P C.w= .ok v C.w/\Rel C x v:=by
 unfold gP at h;split at h
 ·simp at h
 rename_i r t;obtain⟨I,q,L⟩:=oW t;split at h
 ·simp at h
 rename_i B;have u:=Du (P:=C.P) (w:=C.w) B;have run: ∀b o,(Instr.fieldAt T (.pointer (some ⟨b,o,none⟩)) f).run C.P C.w= .ok (.pointer (some ⟨b,o+r.offset,none⟩)) C.w:=by
  intro b o;simp[Instr.fieldAt,run_underlying q,L,Instr.sureAddr,fieldPlace,u,B,ec]
 split at h
 ·rename_i i k F off
  split at h
  ·rename_i d
   simp only[an5,ao1] at h;obtain⟨_,rfl⟩:=h;obtain⟨V,y⟩:=lW H;obtain⟨b,o,rfl⟩:=xC d y;refine⟨_,run b o,dX rfl rfl ?_ s⟩;simp only[M];refine⟨V,_,rfl,rfl,fun m xs e=>?_,fun m a e=>?_,fun _ _ _ e=>(by simp[iR,e] at d),fun _ _ e=>(by simp[iR,e] at d),fun _ _ _ _ _ e=>(by simp[iR,e] at d),fun _ _ _ _ e=>(by simp[iR,e] at d)⟩
   ·obtain⟨z,j⟩:=y.1 m xs e
    simp only[Value.pointer.injEq,an5,Addr.mk.injEq] at j⊢;exact⟨z,j.1,by omega,trivial⟩
   ·obtain⟨z,j⟩:=y.2.1 m a e
    simp only[Value.pointer.injEq,an5,Addr.mk.injEq] at j⊢;exact⟨z,j.1,by omega,trivial⟩
  ·simp at h
 ·rename_i m a
  split at h
  ·rename_i l Q
   split at h
   ·rename_i D
    simp only[an3,an2,beq_iff_eq] at D;obtain⟨⟨rfl,j⟩,R⟩:=D;simp only[an5,ao1] at h;obtain⟨_,rfl⟩:=h;obtain⟨b,off,rfl,X,N,O⟩:=Bu H;obtain⟨K,g⟩:=mw s.lay cd m _ _ _ N O;rw[Q] at K g;refine⟨_,run b off,dX rfl rfl ?_ s⟩;simp only[M];simp only[bu] at g;obtain⟨U,⟨A,_⟩,W⟩:=g;rw[q] at A;simp only[an5,TypeDesc.struct.injEq] at A;subst A;have n:qY I.toList f=some r:=by rw[oX];simpa using L
    obtain⟨_,Y⟩:=zq l I.toList f r W n;have E:=Cb l f _ off j (by simpa[M] using K);rw[R] at E;exact⟨b,off+r.offset,rfl,X,Y,E⟩
   ·simp at h
  ·simp at h
 ·simp at h
theorem lI{C a k n v}(h:RK a=some (k,n))(b:Rel C a v):v= .int k n:=by
 unfold RK at h
 grind [aL]
theorem Hf{C}: ∀l s o k,Qu l=true->ML C l s o->k<l.length->∃v,nth l k= .lit v/\bg v=true/\s (o+k)=some v
 |[],_,_,_,_,_,h=>absurd h (by simp)
 | a::l,s,o,k,b,c,h=>by
  cases a<;>simp[Qu] at b
  rename_i v;cases k with
  |zero=>exact⟨v,rfl,b.1,c.1.1⟩
  |succ k=>
   obtain⟨w,e,d,f⟩:=Hf l s (o+1) k b.2 c.2 (by grind);exact⟨w,e,d,by grind⟩
theorem CF{C T p i x m g}(h:EZ C.P T p i=some (true,x))(j:Rel C p m)(a:Rel C i g):
  ∃v,(Instr.index T m g).run C.P C.w= .ok v C.w/\Rel C x v:=by
 unfold EZ at h;split at h
 ·rename_i z E l k n e b
  have:=lI b a;subst this
  split at h
  ·rename_i q
   obtain⟨I,o,H,t,rfl⟩:=q;obtain⟨J,rfl,u,y⟩:=sF j;simp only[an5,ao1,an3,an2] at h;obtain⟨⟨f,r⟩,rfl⟩:=h;obtain⟨v,D,F,A⟩:=Hf l _ 0 n.toNat t y (by omega);rw[Nat.zero_add] at A;obtain⟨d,hd⟩:=Option.isSome_iff_exists.1 o
   simp_all[aW,Instr.index,asIntOf,run_underlying,part,hG,run_sizeOf]
  ·cases h
 ·rename_i s k n e b
  have:=lI b a;subst this
  have:=aL j;subst this
  simp only[an5,ao1,an3,an2] at h;obtain⟨⟨f,r⟩,rfl⟩:=h;have c:n.toNat<s.size:=by omega
  have B:s[n.toNat]? =some s[n.toNat]:=getElem?_pos s n.toNat c;refine⟨.int .u8 (EA s n.toNat),?_,aW rfl⟩;simp only[Instr.index,Sem.run_bind,asIntOf,Sem.run_pure,Result.andThen_ok,run_underlying e,if_pos f,EA,B]
 ·cases h
theorem u9{C}(hI:Inv C){s}(hs:C.st=s.st){T p i x vp vi}(h:gR C.P s T p i=some (true,x))(hr:Rel C p vp)(hri:Rel C i vi):
  ∃v,(Instr.indexAt T vp vi).run C.P C.w= .ok v C.w/\Rel C x v:=by
 unfold gR at h;split at h
 ·rename_i E k n hT hn
  have:=lI hn hri;subst this
  split at h
  ·rename_i E' l
   split at h
   ·rename_i hE
    obtain⟨rfl,hu⟩:=hE;simp only[an5,ao1,an3,an2] at h;obtain⟨⟨h0,h1⟩,rfl⟩:=h;obtain⟨hpt,q,cap,rfl,hcap,hne⟩:=nM hr;have hk:n.toNat<l.length:=by omega
    obtain⟨b,off,rfl,hX,hm⟩:=hne (by intro e;subst e;simp at hk);have hp:=o5 l n.toNat E hk hpt;have hm':=Cd l n.toNat _ _ _ hk hm;obtain⟨d,hd⟩:=Option.isSome_iff_exists.1 hu;have hsz:=run_sizeOf (w:=C.w) hd;refine⟨.pointer (some ⟨b,off+n.toNat*C.P.cellsOf E,none⟩),?_,dX rfl rfl ?_ hI⟩
    ·simp[Instr.indexAt,asIntOf,run_underlying hT,h0,h1,hsz,ec]
    ·simp only[M]
     exact⟨b,_,rfl,hX,hp,hm'⟩
   ·simp at h
  ·rename_i j lo len
   split at h
   ·rename_i E' xs hel
    split at h
    ·rename_i hE
     obtain⟨rfl,hu⟩:=hE;simp only[an5,ao1,an3,an2] at h;obtain⟨⟨h0,h1⟩,rfl⟩:=h;obtain⟨hj,hsl⟩:=gj hr;rw[←hs] at hel;obtain⟨hlen,hv⟩:=hsl.1 E xs hel;rcases hv with⟨_,_,_,rfl⟩|⟨hnn,cap,q,rfl,hq,hc1,hc2⟩
     ·simp at h1;omega
     ·obtain⟨d,hd⟩:=Option.isSome_iff_exists.1 hu
      have hsz:=run_sizeOf (w:=C.w) hd;have hq':=hq.resolve_right (by omega);subst hq';refine⟨.pointer (some ⟨(C.ι j).block,(lo+n.toNat)*C.P.cellsOf E,none⟩),?_,dX rfl rfl ?_ hI⟩
      ·simp[Instr.indexAt,asIntOf,run_underlying hT,h0,h1,hsz,ec,Nat.add_mul]
      ·simp only[M]
       refine⟨hj,_,rfl,rfl,fun T0 ys hx=>?_,fun T0 a hx=>?_,fun _ _ _ hx=>(by rw[hx] at hel;simp[ib] at hel),fun _ _ hx=>(by rw[hx] at hel;simp[ib] at hel),fun _ _ _ _ _ hx=>(by rw[hx] at hel;simp[ib] at hel),fun _ _ _ _ hx=>(by rw[hx] at hel;simp[ib] at hel)⟩
       ·rw[hel] at hx
        simp only[an5,ao1] at hx;obtain⟨rfl,rfl⟩:=hx;exact⟨by omega,rfl⟩
       ·rw[hx] at hel;simp[ib] at hel
    ·simp at h
   ·rename_i hel
    split at h
    ·rename_i E' E2 ls pd hst
     split at h
     ·rename_i hE
      obtain⟨rfl,hu,hce⟩:=hE;simp only[an5,ao1,an3,an2] at h;obtain⟨⟨h0,h1⟩,rfl⟩:=h;obtain⟨hj,hsl⟩:=gj hr;rw[←hs] at hst;obtain⟨hlen,cap,rfl,hcap⟩:=hsl.2 _ _ _ _ hst;obtain⟨d,hd⟩:=Option.isSome_iff_exists.1 hu;have hsz:=run_sizeOf (w:=C.w) hd;refine⟨.pointer (some ⟨(C.ι j).block,n.toNat,none⟩),?_,dX rfl rfl ?_ hI⟩
      ·simp[Instr.indexAt,asIntOf,run_underlying hT,h0,h1,hsz,ec,hce]
      ·simp only[M]
       refine⟨hj,_,rfl,rfl,fun T0 ys hx=>(by rw[hst] at hx;simp[ib] at hx),fun T0 a hx=>(by rw[hst] at hx;cases hx),fun _ _ _ hx=>(by rw[hst] at hx;cases hx),fun _ _ hx=>(by rw[hst] at hx;cases hx),fun _ _ _ _ _ hx=>(by rw[hst] at hx;cases hx),fun T0 E0 l0 p0 hx=>?_⟩;rw[hst] at hx;cases hx;exact⟨by omega,rfl,rfl⟩
     ·simp at h
    ·simp at h
  ·simp at h
 ·rename_i len E k n hT hn
  have:=lI hn hri;subst this
  split at h
  ·rename_i g off
   split at h
   ·rename_i hE
    obtain⟨hu,hce⟩:=hE;simp only[an5,ao1,an3,an2] at h;obtain⟨⟨h0,h1⟩,rfl⟩:=h;have:=aL hr;subst this
    obtain⟨d,hd⟩:=Option.isSome_iff_exists.1 hu;have hsz:=run_sizeOf (w:=C.w) hd;refine⟨.pointer (some ⟨g,off+n.toNat,none⟩),?_,aW rfl⟩;simp[Instr.indexAt,Instr.sureAddr,asIntOf,run_underlying hT,h0,h1,hsz,ec,hce]
   ·simp at h
  ·rename_i j k p o
   split at h
   ·rename_i hE
    obtain⟨hu,hce,hlive⟩:=hE;simp only[an5,ao1,an3,an2] at h;obtain⟨⟨h0,h1⟩,rfl⟩:=h;rw[←hs] at hlive;obtain⟨hi,hp⟩:=lW hr;obtain⟨b,q,rfl⟩:=xC hlive hp;obtain⟨d,hd⟩:=Option.isSome_iff_exists.1 hu;have hsz:=run_sizeOf (w:=C.w) hd;refine⟨.pointer (some ⟨b,q+n.toNat,none⟩),?_,dX rfl rfl ?_ hI⟩
    ·simp[Instr.indexAt,Instr.sureAddr,asIntOf,run_underlying hT,h0,h1,hsz,ec,hce]
    ·simp only[M]
     refine⟨hi,_,rfl,rfl,fun T0 xs hx=>?_,fun T0 a hx=>?_,fun _ _ _ hx=>(by simp[iR,hx] at hlive),fun _ _ hx=>(by simp[iR,hx] at hlive),fun _ _ _ _ _ hx=>(by simp[iR,hx] at hlive),fun _ _ _ _ hx=>(by simp[iR,hx] at hlive)⟩
     ·obtain⟨h1,h2⟩:=hp.1 T0 xs hx
      simp only[Value.pointer.injEq,an5,Addr.mk.injEq] at h2⊢;exact⟨h1,h2.1,by omega,trivial⟩
     ·obtain⟨h1,h2⟩:=hp.2.1 T0 a hx
      simp only[Value.pointer.injEq,an5,Addr.mk.injEq] at h2⊢;exact⟨h1,h2.1,by omega,trivial⟩
   ·simp at h
  ·simp at h
 ·simp at h
theorem uy{C s a}(b:dh C s a){o d n}(h:gi s o d=some n):
  o=none/\n=d\/ ∃x k,o=some x/\a.eval x= .int k n:=by
 unfold gi at h;cases o with
 |none=>grind
 |some x=>
  simp only[Option.map_eq_some_iff] at h;obtain⟨⟨k,m⟩,c,rfl⟩:=h;exact .inr ⟨x,k,rfl,lI c (bo b x)⟩
theorem iG{P w isS}{a cap:Nat}{lo c}{l h:Int}(b:lo=none/\l=0\/ ∃k,lo=some (.int k l))(d:c=none/\h=a\/ ∃k,c=some (.int k h))
  (e:0<=l) (f:l<=h) (g:h<=cap):(Instr.sliceBounds isS a cap lo c none).run P w= .ok (l.toNat,h.toNat,cap) w:=by
 rcases b with⟨rfl,rfl⟩|⟨k,rfl⟩<;>rcases d with⟨rfl,rfl⟩|⟨i,rfl⟩
 ·rfl
 ·simp_all[Instr.sliceBounds,Instr.sliceBound,asIntOf]
 ·simp[Instr.sliceBounds,Instr.sliceBound,asIntOf,e,f]
 ·obtain⟨m,rfl⟩:=Int.eq_ofNat_of_zero_le (show 0<=h by omega)
  simp_all[Instr.sliceBounds,Instr.sliceBound,asIntOf]
theorem jJ{P T}: ∀l n,b8 P l T->b8 P (l.take n) T
 |_,0,_=>by simp[b8]
 |[],_+1,_=>by grind
 |a::l,n+1,h=>by simpa  using⟨h.1,jJ l n h.2⟩
theorem lk{P T}: ∀l n,b8 P l T->b8 P (l.drop n) T
 |_,0,h=>by grind
 |[],_+1,_=>by grind
 |a::l,n+1,h=>by simpa using lk l n h.2
theorem rH{C}: ∀l n z s o,MR C l z s o->MR C (l.take n) z s o
 |_,0,_,_,_,_=>by simp[MR]
 |[],_+1,_,_,_,_=>by grind
 |a::l,n+1,z,s,o,h=>by simpa  using⟨h.1,rH l n z s _ h.2⟩
theorem vg{C}: ∀l n z s o,MR C l z s o->MR C (l.drop n) z s (o+n*z)
 |_,0,_,_,_,h=>by grind
 |[],_+1,_,_,_,_=>by simp[MR]
 |a::l,n+1,z,s,o,h=>by
  have:=vg l n z s _ h.2
  grind
theorem vq{st i T xs}(h:ib (au st i)=some (T,xs)){p:TypeId->TypeId->List _->Option _->Prop}: ∀T E b a,au st i= .rows T E b a->p T E b a:=
 fun _ _ _ _ c=>by grind [ib]
theorem DG{C}(V:Inv C){s a}(Y:dh C s a){T p x lo H vp}(h:rq C.P s T p lo H=some (true,x))(X:Rel C p vp):
  ∃v,(Instr.sliceAt T vp (lo.map a.eval) (H.map a.eval) none).run C.P C.w= .ok v C.w/\Rel C x v:=by
 have u: ∀{n:Int},gi s lo 0=some n->((lo.map a.eval)=none/\n=0)\/ ∃k,lo.map a.eval=some (.int k n):=by
  intro n r;rcases uy Y r with⟨f,c⟩|⟨x,k,f,c⟩
  ·exact .inl ⟨by simp[f],by simpa using c⟩
  ·exact .inr ⟨k,by simp[f,c]⟩
 have y: ∀{n:Int} {d:Nat},gi s H d=some n->((H.map a.eval)=none/\n=d)\/ ∃k,H.map a.eval=some (.int k n):=by
  intro n d r;rcases uy Y r with⟨f,c⟩|⟨x,k,f,c⟩
  ·exact .inl ⟨by simp[f],c⟩
  ·exact .inr ⟨k,by simp[f,c]⟩
 unfold rq at h;split at h
 ·rename_i b
  split at h
  ·rename_i l t D j o
   simp only[an5,ao1,an3,an2] at h;obtain⟨⟨⟨f,c⟩,B⟩,rfl⟩:=h;have:=aL X;subst this
   have r:=iG (P:=C.P) (w:=C.w) (isS:=false) (u j) (y o) f c B;exact⟨_,by simp[Instr.sliceAt,Instr.slice,run_underlying D,r],aW rfl⟩
  ·simp at h
 ·rename_i E l0
  split at h
  ·rename_i E' l t D j o
   split at h
   ·rename_i hE
    obtain⟨rfl,O⟩:=hE;simp only[an5,ao1,an3,an2] at h;obtain⟨⟨⟨f,c⟩,B⟩,rfl⟩:=h;obtain⟨Q,q,cap,rfl,hcap,U⟩:=nM X;obtain⟨d,hd⟩:=Option.isSome_iff_exists.1 O;have L:=run_sizeOf (w:=C.w) hd;have r:=iG (P:=C.P) (w:=C.w) (isS:=true) (cap:=cap) (u j) (y o) f c (by omega);have g:((l0.take t.toNat).drop l.toNat).length=t.toNat - l.toNat:=by simp;omega
    refine⟨.slice (if cap=l.toNat then q else q.map (·.add (l.toNat*C.P.cellsOf E))) (t.toNat - l.toNat) (cap - l.toNat),by simp[Instr.sliceAt,Instr.slice,run_underlying D,r,L],dX rfl rfl ?_ V⟩;simp only[M];refine⟨lk _ _ (jJ _ _ Q),_,_,by rw[g],by rw[g];omega,fun F=>?_⟩;have hpos:0<t.toNat - l.toNat:=by
     rw[←g];exact List.length_pos_iff.2 F
    obtain⟨b,off,rfl,hX,hm⟩:=U (by intro e;subst e;simp at B;omega);rw[if_neg (by omega)];exact⟨b,off+l.toNat*C.P.cellsOf E,by simp[ec],hX,vg _ _ _ _ _ (rH _ _ _ _ _ hm)⟩
   ·simp at h
  ·simp at h
 ·rename_i i lo0 n
  split at h
  ·rename_i E' E xs l t D m j o
   split at h
   ·rename_i hE
    obtain⟨rfl,O⟩:=hE;simp only[an5,ao1,an3,an2] at h;obtain⟨⟨⟨f,c⟩,B⟩,rfl⟩:=h;obtain⟨I,R⟩:=gj X;obtain⟨d,hd⟩:=Option.isSome_iff_exists.1 O;have L:=run_sizeOf (w:=C.w) hd;rw[←Y.st] at m;obtain⟨g,hv⟩:=R.1 _ xs m;rcases hv with⟨J,rfl,rfl,rfl⟩|⟨W,cap,q,rfl,hq,hc1,hc2⟩
    ·have z:l=0:=by simp at B;omega
     have Z:t=0:=by simp at B;omega
     subst z;subst Z
     have r:=iG (P:=C.P) (w:=C.w) (isS:=true) (cap:=0) (u j) (y o) f c (by simp);refine⟨.slice none 0 0,by simp[Instr.sliceAt,Instr.slice,run_underlying D,r,L],dX rfl rfl ?_ V⟩;simp only[M];refine⟨I,_,rfl,rfl,fun T0 ys A=>?_,vq m⟩;rw[m] at A;simp only[an5,ao1] at A;obtain⟨rfl,rfl⟩:=A;exact⟨by simp, .inl ⟨J,rfl,by simp,by simp⟩⟩
    ·have r:=iG (P:=C.P) (w:=C.w) (isS:=true) (cap:=cap) (u j) (y o) f c (by omega)
     refine⟨.slice (if cap=l.toNat then some q else some (q.add (l.toNat*C.P.cellsOf E))) (t.toNat - l.toNat) (cap - l.toNat),by simp[Instr.sliceAt,Instr.slice,run_underlying D,r,L],dX rfl rfl ?_ V⟩;simp only[M];refine⟨I,_,rfl,rfl,fun T0 ys A=>?_,vq m⟩;rw[m] at A;simp only[an5,ao1] at A;obtain⟨rfl,rfl⟩:=A;have e1:t.toNat - l.toNat=(t - l).toNat:=by omega
     refine⟨by omega, .inr ⟨W,cap - l.toNat,_,by rw[←apply_ite some,e1],?_,by omega,by omega⟩⟩;by_cases K:cap=l.toNat
     ·rw[if_pos K]
      by_cases z:l.toNat=0
      ·rcases hq with rfl|⟨_,h⟩
       ·left;simp[z]
       ·right;exact⟨by omega,by omega⟩
      ·right;exact⟨by omega,by omega⟩
     ·rw[if_neg K]
      left
      have N:=hq.resolve_right (by omega);rw[N,ec,Nat.add_mul]
   ·simp at h
  ·simp at h
 ·simp at h
theorem CX{C s a}(c:dh C s a){o n}(h:xm s o=some n): ∃x k,o=some x/\a.eval x= .int k n:=by
 cases o with
 |none=>cases h
 |some x=>
  simp only[xm,Option.map_eq_some_iff] at h;obtain⟨⟨k,m⟩,b,rfl⟩:=h;exact⟨x,k,rfl,lI b (bo c x)⟩
theorem BS{C}(F:Inv C){s a}(y:dh C s a){T p x lo L m H}(h:nP C.P s T p lo L m=some (true,x))(U:Rel C p H):
  ∃v,(Instr.sliceAt T H (lo.map a.eval) (L.map a.eval) (some (a.eval m))).run C.P C.w= .ok v C.w/\Rel C x v:=by
 unfold nP at h;split at h
 ·rename_i i n
  split at h
  ·rename_i E' E xs hh V I c B u
   split at h
   ·rename_i W
    obtain⟨rfl,X⟩:=W;simp only[an5,ao1,an3,an2] at h;obtain⟨⟨⟨Z,h2⟩,h3⟩,rfl⟩:=h;obtain⟨l,Y,rfl,o⟩:=CX y B;obtain⟨m',k,e,t⟩:=CX y u;cases e;obtain⟨g,A⟩:=gj U;obtain⟨d,hd⟩:=Option.isSome_iff_exists.1 X;have J:=run_sizeOf (w:=C.w) hd;rw[←y.st] at c;obtain⟨K,R⟩:=A.1 _ xs c;obtain⟨f,rfl⟩:=Int.eq_ofNat_of_zero_le (show 0<=V by omega);obtain⟨j,rfl⟩:=Int.eq_ofNat_of_zero_le Z;have b: ∀cap,n<=cap->(Instr.sliceBounds true n cap none (some (.int Y j)) (some (.int k f))).run C.P C.w= .ok (0,j,f) C.w:=fun cap hc=>by
     simp[Instr.sliceBounds,Instr.sliceBound,asIntOf,show f<=cap by omega,show j<=f by omega]
    rcases R with⟨r,rfl,_,rfl⟩|⟨O,cap,q,rfl,Q,z,hc2⟩
    ·obtain rfl:f=0:=by omega
     obtain rfl:j=0:=by omega
     refine⟨.slice none 0 0,?_,dX rfl rfl ?_ F⟩
     ·simp only[Option.map_none,Option.map_some,o,t]
      have N:=b 0 (Nat.le_refl _);simp only[Int.natCast_zero] at N⊢;simp[Instr.sliceAt,Instr.slice,run_underlying I,J,N]
     ·simp only[M]
      refine⟨g,_,rfl,rfl,fun T0 ys l=>?_,vq c⟩;rw[c] at l;simp only[an5,ao1] at l;obtain⟨rfl,rfl⟩:=l;exact⟨by simp, .inl ⟨r,rfl,rfl,by simp⟩⟩
    ·have D:q=⟨(C.ι i).block,0,none⟩:=by
      rcases Q with h|⟨_,h⟩
      ·simpa using h
      ·omega
     subst D;refine⟨.slice (some ⟨(C.ι i).block,0,none⟩) j f,?_,dX rfl rfl ?_ F⟩
     ·simp only[Option.map_none,Option.map_some,o,t]
      simp[Instr.sliceAt,Instr.slice,run_underlying I,J,b cap z,ec]
     ·simp only[M]
      refine⟨g,_,rfl,rfl,fun T0 ys l=>?_,vq c⟩
      grind
   ·simp at h
  ·simp at h
 ·simp at h
end Go.Dn
