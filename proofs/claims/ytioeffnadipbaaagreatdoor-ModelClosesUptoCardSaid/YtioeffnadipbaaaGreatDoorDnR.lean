import Derived.Test.YtioeffnadipbaaaGreatDoorDnQ
namespace Go.Dn
open Go
def Ctx.app(C:Ctx) i o g w:={C with st:=dv C.st i .dead++[o],ι:=zZ C g,w}
theorem nO{C:Ctx}{i o g w}:(C.app i o g w).st.length=C.st.length+1:=by simp[Ctx.app,bc]
theorem kU{C:Ctx}{i o g w}:ay (C.app i o g w).st C.st.length=o/\(C.app i o g w).ι C.st.length=g:=by
 refine⟨?_,?_⟩
 ·have:=gY (dv C.st i .dead) [o] 0
  grind [Ctx.app,ay,bc]
 simp_all[Ctx.app,zZ]
theorem xb{C:Ctx}{i o g w}(a:i<C.st.length):ay (C.app i o g w).st i= .dead:=by grind [Ctx.app,et,bc,bw]
theorem BB{C:Ctx}{i j o g w}(b:j<C.st.length)(a:i≠j):ay (C.app i o g w).st j=ay C.st j:=by grind [Ctx.app,et,bc,bJ]
theorem nP{C:Ctx}{i j o g w}(a:j<C.st.length):(C.app i o g w).ι j=C.ι j:=by
 simp[Ctx.app,zZ];grind
theorem nb{C}(d:Inv C){i}(k:i<C.st.length){T xs}(f:ay C.st i= .row T xs){o g w}
  (c:g.block=(C.ι i).block/\(C.ι i).isNil=false\/g.block=C.w.heap.size) (a: ∀b,b<C.w.heap.size->b≠g.block->w.heap[b]? =C.w.heap[b]?):bW C (C.app i o g w):=by
 refine⟨rfl,fun _ h=>h,fun b j=>a b (d.xs b j) fun e=>?_⟩;rcases c with⟨c,l⟩|c
 ·have:=((d.obj i k).lt (by grind [cC])).2
  grind
 ·have:=d.xs b j;omega
theorem N8{C}(c:Inv C){i}(p:i<C.st.length){T xs}(n:ay C.st i= .row T xs){o g w}
  (k:g.block=(C.ι i).block/\(C.ι i).isNil=false\/g.block=C.w.heap.size) (f: ∀b,b<C.w.heap.size->b≠g.block->w.heap[b]? =C.w.heap[b]?) {j} (a:j<C.st.length):cj C (C.app i o g w) j j:=by
 by_cases d:i=j
 ·grind [uF,nO,xb]
 ·refine eQ c a (by grind [nO]) (BB a d) (nP a) (fun h b l=>⟨rfl,rfl,f _ (c.dG ⟨j,a,h,l.symm⟩).1 (fun e=>?_)⟩)
  rcases k with⟨k,q⟩|k
  ·have m:cC (C.ι i) (ay C.st i)=true:=by grind [cC]
   rw[e,k,c.fz i p m] at l;exact c.tH j i a p (Ne.symm d) h m l.symm
  ·have:=(c.dG ⟨j,a,h,l.symm⟩).1;omega
theorem sf{C}(d:Inv C){i}(x:i<C.st.length){T xs}(c:ay C.st i= .row T xs){o g w}
  (f:g.block=(C.ι i).block/\(C.ι i).isNil=false\/g.block=C.w.heap.size) (D:C.w.heap.size<=w.heap.size) (u:er C.w w) (p: ∀b,b<C.w.heap.size->b≠g.block->w.heap[b]? =C.w.heap[b]?)
  (L:kL (C.app i o g w) g o):Inv (C.app i o g w)/\Ext C.st.length C (C.app i o g w):=by
 have E:=nb d x c f p (o:=o);have t: ∀j,j<C.st.length->cj C (C.app i o g w) j j:=fun j l=>N8 d x c f p l
 have A: ∀j,j<C.st.length->i≠j->cC (C.ι j) (ay C.st j)=true->(C.ι j).block≠g.block:=fun j l r h e=>by
  rcases f with⟨f,B⟩|f
  ·exact d.tH j i l x (Ne.symm r) h (by rw[c];simp[cC,B]) (e.trans f)
  ·have:=((d.obj j l).lt h).1;omega
 have a: ∀j,j<C.st.length->cC ((C.app i o g w).ι j) (ay (C.app i o g w).st j)=true->i≠j/\cC (C.ι j) (ay C.st j)=true:=fun j l h=>by
  by_cases e:i=j
  ·subst e;rw[xb x] at h;simp[cC] at h
  ·rw[BB l e,nP l] at h;exact⟨e,h⟩
 have y:g.block<C.w.heap.size->Own C g.block:=fun h=>by
  rcases f with⟨f,B⟩|f
  ·rw[f];exact d.uA x (by rw[c];simp[cC,B])
  ·omega
 have q:C.cls g.block=g.block:=by
  rcases f with⟨f,B⟩|f
  ·rw[f];exact d.fz i x (by rw[c];simp[cC,B])
  ·exact d.fresh (by omega)
 refine⟨⟨d.lay,fun j l=>?_,fun j k l F J s z=>?_,fun b n=>by have:=d.xs b n;show b<w.heap.size;omega,fun j l s=>?_,fun b n=>?_,d.mo E⟩,⟨E,D,u.os,u.tape,u.output,fun b n I=>p b n (fun e=>I (e▸y (e▸n))),fun b n=> .inl n,fun b n=>?_,t,fun _=> .inl ⟨rfl,rfl⟩,rfl⟩⟩
 ·rw[nO] at l
  rcases Nat.lt_or_ge j C.st.length with h|h
  ·by_cases r:i=j
   ·subst r;rw[xb x];trivial
   ·rw[BB h r,nP h]
    exact(d.obj j h).gI E d.lay (fun j l _=>t j l) (d.fz j h) ⟨fun b m n=>⟨(d.dG ⟨j,h,m,n.symm⟩).2,p _ (d.dG ⟨j,h,m,n.symm⟩).1 (fun e=>A j h r m (by rw[←n,e,q]))⟩,fun _ _=>⟨Iff.rfl,fun _=>rfl⟩,u,D,fun _ _=>rfl⟩
  ·obtain rfl:j=C.st.length:=by omega
   rw[kU.1,kU.2];exact L
 ·rw[nO] at l F
  rcases Nat.lt_or_ge j C.st.length with h|h<;>rcases Nat.lt_or_ge k C.st.length with m|m
  ·rw[nP h,nP m]
   exact d.tH j k h m J (a j h s).2 (a k m z).2
  ·obtain rfl:k=C.st.length:=by omega
   rw[nP h,kU.2];exact A j h (a j h s).1 (a j h s).2
  ·obtain rfl:j=C.st.length:=by omega
   rw[nP m,kU.2];exact(A k m (a k m z).1 (a k m z).2).symm
  ·omega
 ·rw[nO] at l
  rcases Nat.lt_or_ge j C.st.length with h|h
  ·rw[nP h];exact d.fz j h (a j h s).2
  ·obtain rfl:j=C.st.length:=by omega
   rw[kU.2];exact q
 ·have:=d.oX b n
  exact⟨by show b<w.heap.size;omega,this.2.1,by show C.cls b<w.heap.size;omega⟩
 ·obtain⟨j,l,H,v⟩:=n
  rw[nO] at l;rcases Nat.lt_or_ge j C.st.length with h|h
  ·rw[nP h] at v
   exact .inl ⟨j,h,(a j h H).2,v⟩
  ·obtain rfl:j=C.st.length:=by omega
   rw[kU.2] at v;have K:g.block=C.cls b:=v;rcases Nat.lt_or_ge b C.w.heap.size with m|m
   ·refine .inl ?_
    rcases f with⟨f,B⟩|f
    ·exact⟨i,x,by rw[c];simp[cC,B],f.symm.trans K⟩
    ·exfalso
     by_cases e:C.cls b=b
     ·omega
     ·have:=(d.oX b e).2.2;omega
   ·exact .inr m
theorem uT{C}(J:Inv C){s y I m F}(h:qG C.st y=some (I,m))(d:p9 I s=true)(r:Rel C y F):
  ∃p c,F= .slice p m.length c/\cu C.P m s/\(m≠[]->∃b off,p=some ⟨b,off,none⟩/\MR C m (C.P.cellsOf s) (cellAt C.w b) off):=by
 unfold qG at h;split at h
 ·simp only[aC8,aD4] at h
  obtain⟨rfl,rfl⟩:=h;have:=a0 r
  exact⟨none,0,this,trivial,fun a=>absurd rfl a⟩
 ·simp only[aC8,aD4] at h
  obtain⟨rfl,rfl⟩:=h;simp only[p9,beq_iff_eq] at d;subst d
  obtain⟨v,p,cap,rfl,_,a⟩:=ou r;exact⟨p,cap,rfl,v,fun h=>by obtain⟨b,off,f,_,A⟩:=a h;exact⟨b,off,f,A⟩⟩
 ·rename_i i lo n
  split at h
  ·rename_i T xs g
   simp only[aC8,aD4] at h;obtain⟨rfl,rfl⟩:=h;simp only[p9,beq_iff_eq] at d;subst d
   obtain⟨t,u⟩:=gw r;obtain⟨K,W⟩:=u.1 _ xs g;obtain⟨v,j⟩:=tg J t g;have D:((xs.drop lo).take n).length=n:=by simp;omega
   rw[D];rcases W with⟨_,rfl,rfl,rfl⟩|⟨L,cap,q,rfl,N,O,V⟩
   ·exact⟨none,0,rfl,by simp[cu],fun a=>absurd (by simp) a⟩
   ·refine⟨some q,cap,rfl,j8 _ _ (lN _ _ v),fun a=>?_⟩
    have R:0<n:=by rw[←D];exact List.length_pos_iff.2 a
    have x:=N.resolve_right (by omega);rcases j with⟨H,_⟩|⟨_,_,z⟩
    ·rw[L] at H;cases H
    ·have f:=r8 _ n _ _ _ (wx xs lo _ _ _ z)
     rw[Nat.zero_add] at f;exact⟨_,_,by rw[x],f⟩
  ·split at h
   ·rename_i T E ls Z k l
    simp only[aC8,aD4] at h;obtain⟨rfl,rfl⟩:=h;simp only[p9,beq_iff_eq] at d;subst d
    obtain⟨t,u⟩:=gw r;have o:=J.obj i t;rw[l] at o;obtain⟨_,_,U,B,_⟩:=o;obtain⟨p,cap,rfl,f,A,X,Y⟩:=F3 U (B k) (u.2 _ _ _ _ l).2;rw[A];refine⟨p,cap,rfl,X,fun a=>?_⟩;obtain⟨b,Q,_,z⟩:=Y (by intro e;subst e;simp at a);exact⟨b,0,Q,z⟩
   ·simp at h
 ·simp at h
theorem r7{C}(c:ft C.P){T}: ∀l s o,cu C.P l T->MR C l (C.P.cellsOf T) s o->∀j,j<l.length*C.P.cellsOf T->∃v,s (o+j)=some v/\bj v=true
 |[],_,_,_,_,j,d=>by grind
 | a::l,s,o,b,h,j,d=>by
  simp[cu] at b;simp[MR] at h;have i:=dB c a T b.1;simp[Nat.add_mul] at d;rcases Nat.lt_or_ge j (C.P.cellsOf T) with e|f
  ·grind [GH]
  ·obtain⟨v,k,g⟩:=r7 c l s _ b.2 h.2 (j - C.P.cellsOf T) (by omega)
   grind
def c9(s:Src) o n:=(List.range n).map fun j=>(s (o+j)).getD undef
theorem iS s o n:(c9 s o n).length=n:=by simp[c9]
theorem ix{s o n}(h: ∀j,j<n->∃v,s (o+j)=some v/\bj v=true){j}(a:j<n):(c9 s o n)[j]? =s (o+j):=by
 grind [c9]
theorem GW{s o n}(h: ∀j,j<n->∃v,s (o+j)=some v/\bj v=true): ∀u,u∈c9 s o n->u.oneCell'=true:=by grind [c9,uw]
theorem zU{C}: ∀l m z s o,MR C l z s o->MR C m z s (o+l.length*z)->MR C (l++m) z s o
 |[],m,z,s,o,_,h=>by grind
 |a::l,m,z,s,o,h,b=>by
  refine⟨h.1,zU l m z s _ h.2 ?_⟩
  grind
theorem oj{P T}: ∀l m,cu P l T->cu P m T->cu P (l++m) T
 |[],m,_,h=>by grind
 |a::l,m,h,b=>by exact⟨h.1,oj l m h.2 b⟩
theorem gK{P w t ty e d}(f:P.underlying t=some (.slice e))(b:P.underlying e=some d) base p n cap c(h:n<=cap):
  (Builtin.append_ #[t,t] ty #[.slice base n cap, .slice p 0 c]).run P w= .ok (.slice base n cap) w:=by
 have a: ∀z,(Builtin.firstCells z 0 (.slice p 0 c)).run P w= .ok #[] w:=by
  intro z;cases p<;>simp[Builtin.firstCells,loadCells,loadCellsFrom]
 simp only[Builtin.append_];simp[run_underlying f,run_sizeOf b,Builtin.lenOf,h,a];cases base<;>simp[storeCells]
end Go.Dn
