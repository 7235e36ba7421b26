import Derived.Test.YtioeffnadipbaaaGreatDoorDnQ
namespace Go.Dn
open Go
def Ctx.app(C:Ctx) i o g w:={C with st:=dj C.st i .dead++[o],ι:=yL C g,w}
theorem nh{C:Ctx}{i o g w}:(C.app i o g w).st.length=C.st.length+1:=by simp[Ctx.app,a9]
theorem kt{C:Ctx}{i o g w}:au (C.app i o g w).st C.st.length=o/\(C.app i o g w).ι C.st.length=g:=by
 refine⟨?_,?_⟩
 ·have:=gF (dj C.st i .dead) [o] 0
  grind [Ctx.app,au,a9]
 simp_all[Ctx.app,yL]
theorem vR{C:Ctx}{i o g w}(a:i<C.st.length):au (C.app i o g w).st i= .dead:=by grind [Ctx.app,dV,a9,bn]
theorem Aj{C:Ctx}{i j o g w}(b:j<C.st.length)(a:i≠j):au (C.app i o g w).st j=au C.st j:=by grind [Ctx.app,dV,a9,bw]
theorem ni{C:Ctx}{i j o g w}(a:j<C.st.length):(C.app i o g w).ι j=C.ι j:=by
 simp[Ctx.app,yL];grind
theorem mz{C}(d:Inv C){i}(k:i<C.st.length){T xs}(f:au C.st i= .row T xs){o g w}
  (c:g.block=(C.ι i).block/\(C.ι i).isNil=false\/g.block=C.w.heap.size) (a: ∀b,b<C.w.heap.size->b≠g.block->w.heap[b]? =C.w.heap[b]?):bK C (C.app i o g w):=by
 refine⟨rfl,fun _ h=>h,fun b j=>a b (d.xs b j) fun e=>?_⟩;rcases c with⟨c,l⟩|c
 ·have:=((d.obj i k).lt (by grind [cv])).2
  grind
 ·have:=d.xs b j;omega
theorem Lq{C}(c:Inv C){i}(p:i<C.st.length){T xs}(n:au C.st i= .row T xs){o g w}
  (k:g.block=(C.ι i).block/\(C.ι i).isNil=false\/g.block=C.w.heap.size) (f: ∀b,b<C.w.heap.size->b≠g.block->w.heap[b]? =C.w.heap[b]?) {j} (a:j<C.st.length):bW C (C.app i o g w) j j:=by
 by_cases d:i=j
 ·grind [tO,nh,vR]
 ·refine dW c a (by grind [nh]) (Aj a d) (ni a) (fun h b l=>⟨rfl,rfl,f _ (c.dA ⟨j,a,h,l.symm⟩).1 (fun e=>?_)⟩)
  rcases k with⟨k,q⟩|k
  ·have m:cv (C.ι i) (au C.st i)=true:=by grind [cv]
   rw[e,k,c.eZ i p m] at l;exact c.u0 j i a p (Ne.symm d) h m l.symm
  ·have:=(c.dA ⟨j,a,h,l.symm⟩).1;omega
theorem rN{C}(d:Inv C){i}(x:i<C.st.length){T xs}(c:au C.st i= .row T xs){o g w}
  (f:g.block=(C.ι i).block/\(C.ι i).isNil=false\/g.block=C.w.heap.size) (D:C.w.heap.size<=w.heap.size) (u:dT C.w w) (p: ∀b,b<C.w.heap.size->b≠g.block->w.heap[b]? =C.w.heap[b]?)
  (L:kl (C.app i o g w) g o):Inv (C.app i o g w)/\Ext C.st.length C (C.app i o g w):=by
 have E:=mz d x c f p (o:=o);have t: ∀j,j<C.st.length->bW C (C.app i o g w) j j:=fun j l=>Lq d x c f p l
 have A: ∀j,j<C.st.length->i≠j->cv (C.ι j) (au C.st j)=true->(C.ι j).block≠g.block:=fun j l r h e=>by
  rcases f with⟨f,B⟩|f
  ·exact d.u0 j i l x (Ne.symm r) h (by rw[c];simp[cv,B]) (e.trans f)
  ·have:=((d.obj j l).lt h).1;omega
 have a: ∀j,j<C.st.length->cv ((C.app i o g w).ι j) (au (C.app i o g w).st j)=true->i≠j/\cv (C.ι j) (au C.st j)=true:=fun j l h=>by
  by_cases e:i=j
  ·subst e;rw[vR x] at h;simp[cv] at h
  ·rw[Aj l e,ni l] at h;exact⟨e,h⟩
 have y:g.block<C.w.heap.size->Own C g.block:=fun h=>by
  rcases f with⟨f,B⟩|f
  ·rw[f];exact d.tI x (by rw[c];simp[cv,B])
  ·omega
 have q:C.cls g.block=g.block:=by
  rcases f with⟨f,B⟩|f
  ·rw[f];exact d.eZ i x (by rw[c];simp[cv,B])
  ·exact d.fresh (by omega)
 refine⟨⟨d.lay,fun j l=>?_,fun j k l F J s z=>?_,fun b n=>by have:=d.xs b n;show b<w.heap.size;omega,fun j l s=>?_,fun b n=>?_,d.lR E⟩,⟨E,D,u.os,u.tape,u.output,fun b n I=>p b n (fun e=>I (e▸y (e▸n))),fun b n=> .inl n,fun b n=>?_,t,fun _=> .inl ⟨rfl,rfl⟩,rfl⟩⟩
 ·rw[nh] at l
  rcases Nat.lt_or_ge j C.st.length with h|h
  ·by_cases r:i=j
   ·subst r;rw[vR x];trivial
   ·rw[Aj h r,ni h]
    exact(d.obj j h).gr E d.lay (fun j l _=>t j l) (d.eZ j h) ⟨fun b m n=>⟨(d.dA ⟨j,h,m,n.symm⟩).2,p _ (d.dA ⟨j,h,m,n.symm⟩).1 (fun e=>A j h r m (by rw[←n,e,q]))⟩,fun _ _=>⟨Iff.rfl,fun _=>rfl⟩,u,D,fun _ _=>rfl⟩
  ·obtain rfl:j=C.st.length:=by omega
   rw[kt.1,kt.2];exact L
 ·rw[nh] at l F
  rcases Nat.lt_or_ge j C.st.length with h|h<;>rcases Nat.lt_or_ge k C.st.length with m|m
  ·rw[ni h,ni m]
   exact d.u0 j k h m J (a j h s).2 (a k m z).2
  ·obtain rfl:k=C.st.length:=by omega
   rw[ni h,kt.2];exact A j h (a j h s).1 (a j h s).2
  ·obtain rfl:j=C.st.length:=by omega
   rw[ni m,kt.2];exact(A k m (a k m z).1 (a k m z).2).symm
  ·omega
 ·rw[nh] at l
  rcases Nat.lt_or_ge j C.st.length with h|h
  ·rw[ni h];exact d.eZ j h (a j h s).2
  ·obtain rfl:j=C.st.length:=by omega
   rw[kt.2];exact q
 ·have:=d.ot b n
  exact⟨by show b<w.heap.size;omega,this.2.1,by show C.cls b<w.heap.size;omega⟩
 ·obtain⟨j,l,H,v⟩:=n
  rw[nh] at l;rcases Nat.lt_or_ge j C.st.length with h|h
  ·rw[ni h] at v
   exact .inl ⟨j,h,(a j h H).2,v⟩
  ·obtain rfl:j=C.st.length:=by omega
   rw[kt.2] at v;have K:g.block=C.cls b:=v;rcases Nat.lt_or_ge b C.w.heap.size with m|m
   ·refine .inl ?_
    rcases f with⟨f,B⟩|f
    ·exact⟨i,x,by rw[c];simp[cv,B],f.symm.trans K⟩
    ·exfalso
     by_cases e:C.cls b=b
     ·omega
     ·have:=(d.ot b e).2.2;omega
   ·exact .inr m
theorem uc{C}(J:Inv C){s y I m F}(h:qc C.st y=some (I,m))(d:pC I s=true)(r:Rel C y F):
  ∃p c,F= .slice p m.length c/\b8 C.P m s/\(m≠[]->∃b off,p=some ⟨b,off,none⟩/\MR C m (C.P.cellsOf s) (cellAt C.w b) off):=by
 unfold qc at h;split at h
 ·simp only[an5,ao1] at h
  obtain⟨rfl,rfl⟩:=h;have:=aL r
  exact⟨none,0,this,trivial,fun a=>absurd rfl a⟩
 ·simp only[an5,ao1] at h
  obtain⟨rfl,rfl⟩:=h;simp only[pC,beq_iff_eq] at d;subst d
  obtain⟨v,p,cap,rfl,_,a⟩:=nM r;exact⟨p,cap,rfl,v,fun h=>by obtain⟨b,off,f,_,A⟩:=a h;exact⟨b,off,f,A⟩⟩
 ·rename_i i lo n
  split at h
  ·rename_i T xs g
   simp only[an5,ao1] at h;obtain⟨rfl,rfl⟩:=h;simp only[pC,beq_iff_eq] at d;subst d
   obtain⟨t,u⟩:=gj r;obtain⟨K,W⟩:=u.1 _ xs g;obtain⟨v,j⟩:=sG J t g;have D:((xs.drop lo).take n).length=n:=by simp;omega
   rw[D];rcases W with⟨_,rfl,rfl,rfl⟩|⟨L,cap,q,rfl,N,O,V⟩
   ·exact⟨none,0,rfl,by simp[b8],fun a=>absurd (by simp) a⟩
   ·refine⟨some q,cap,rfl,jJ _ _ (lk _ _ v),fun a=>?_⟩
    have R:0<n:=by rw[←D];exact List.length_pos_iff.2 a
    have x:=N.resolve_right (by omega);rcases j with⟨H,_⟩|⟨_,_,z⟩
    ·rw[L] at H;cases H
    ·have f:=rH _ n _ _ _ (vg xs lo _ _ _ z)
     rw[Nat.zero_add] at f;exact⟨_,_,by rw[x],f⟩
  ·split at h
   ·rename_i T E ls Z k l
    simp only[an5,ao1] at h;obtain⟨rfl,rfl⟩:=h;simp only[pC,beq_iff_eq] at d;subst d
    obtain⟨t,u⟩:=gj r;have o:=J.obj i t;rw[l] at o;obtain⟨_,_,U,B,_⟩:=o;obtain⟨p,cap,rfl,f,A,X,Y⟩:=DZ U (B k) (u.2 _ _ _ _ l).2;rw[A];refine⟨p,cap,rfl,X,fun a=>?_⟩;obtain⟨b,Q,_,z⟩:=Y (by intro e;subst e;simp at a);exact⟨b,0,Q,z⟩
   ·simp at h
 ·simp at h
theorem rG{C}(c:eU C.P){T}: ∀l s o,b8 C.P l T->MR C l (C.P.cellsOf T) s o->∀j,j<l.length*C.P.cellsOf T->∃v,s (o+j)=some v/\bg v=true
 |[],_,_,_,_,j,d=>by grind
 | a::l,s,o,b,h,j,d=>by
  simp[b8] at b;simp[MR] at h;have i:=dw c a T b.1;simp[Nat.add_mul] at d;rcases Nat.lt_or_ge j (C.P.cellsOf T) with e|f
  ·grind [Ey]
  ·obtain⟨v,k,g⟩:=rG c l s _ b.2 h.2 (j - C.P.cellsOf T) (by omega)
   grind
def cV(s:Src) o n:=(List.range n).map fun j=>(s (o+j)).getD undef
theorem im s o n:(cV s o n).length=n:=by simp[cV]
theorem gY{s o n}(h: ∀j,j<n->∃v,s (o+j)=some v/\bg v=true){j}(a:j<n):(cV s o n)[j]? =s (o+j):=by
 grind [cV]
theorem EE{s o n}(h: ∀j,j<n->∃v,s (o+j)=some v/\bg v=true): ∀u,u∈cV s o n->u.oneCell'=true:=by grind [cV,tF]
theorem yG{C}: ∀l m z s o,MR C l z s o->MR C m z s (o+l.length*z)->MR C (l++m) z s o
 |[],m,z,s,o,_,h=>by grind
 |a::l,m,z,s,o,h,b=>by
  refine⟨h.1,yG l m z s _ h.2 ?_⟩
  grind
theorem nJ{P T}: ∀l m,b8 P l T->b8 P m T->b8 P (l++m) T
 |[],m,_,h=>by grind
 |a::l,m,h,b=>by exact⟨h.1,nJ l m h.2 b⟩
theorem gu{P w t ty e d}(f:P.underlying t=some (.slice e))(b:P.underlying e=some d) base p n cap c(h:n<=cap):
  (Builtin.append_ #[t,t] ty #[.slice base n cap, .slice p 0 c]).run P w= .ok (.slice base n cap) w:=by
 have a: ∀z,(Builtin.firstCells z 0 (.slice p 0 c)).run P w= .ok #[] w:=by
  intro z;cases p<;>simp[Builtin.firstCells,loadCells,loadCellsFrom]
 simp only[Builtin.append_];simp[run_underlying f,run_sizeOf b,Builtin.lenOf,h,a];cases base<;>simp[storeCells]
end Go.Dn
