import Derived.Test.YtioeffnadipbaaaGreatDoorDnM
namespace Go.Dn
open Go
def Stepped C(act:Act) dst(r:Result Next)(K:S->Prop):=
 ∃v w',(r= .ok (.value v) w'\/r= .ok .skip w'/\v=undef)/\∃C' s',C'.w=w'/\C'.P=C.P/\Inv C'/\dr C' s' (act.put dst v)/\Ext C.st.length C C'/\K s'
theorem uw v:bj v=v.oneCell':=rfl
mutual
theorem IZ{C:Ctx}: ∀(a:AV) (s:Src) (o:Nat),cX a=true->M C a s o->∀j,j<wid a->∃v,s (o+j)=some v/\bj v=true
 | .agg l,s,o,hs,h,j,hj=>by
  simp only[cX] at hs;simp only[M] at h;simp only[wid] at hj
  exact DV l s o hs h j hj
 | .cP,_,_,hs,_,_,_| .aH _,_,_,hs,_,_,_=>by simp[cX] at hs
 | .lit v,s,o,hs,h,j,hj=>by
  simp only[wid] at hj;obtain rfl:j=0:=by omega
  exact iw (a:= .lit v) rfl hs h
 | .ah T l,s,o,hs,h,j,hj=>by simp only[wid] at hj;obtain rfl:j=0:=(by omega);exact iw (a:= .ah T l) rfl hs h
 | .ak i lo n,s,o,hs,h,j,hj=>by simp only[wid] at hj;obtain rfl:j=0:=(by omega);exact iw (a:= .ak i lo n) rfl hs h
 | .ptr i k p f,s,o,hs,h,j,hj=>by simp only[wid] at hj;obtain rfl:j=0:=(by omega);exact iw (a:= .ptr i k p f) rfl hs h
 | .jK T a,s,o,hs,h,j,hj=>by simp only[wid] at hj;obtain rfl:j=0:=(by omega);exact iw (a:= .jK T a) rfl hs h
 | .mp i,s,o,hs,h,j,hj=>by simp only[wid] at hj;obtain rfl:j=0:=(by omega);exact iw (a:= .mp i) rfl hs h
 | .cn i,s,o,hs,h,j,hj=>by simp only[wid] at hj;obtain rfl:j=0:=(by omega);exact iw (a:= .cn i) rfl hs h
 | .lZ i k,s,o,hs,h,j,hj=>by simp only[wid] at hj;obtain rfl:j=0:=(by omega);exact iw (a:= .lZ i k) rfl hs h
 | .bo f l,s,o,hs,h,j,hj=>by simp only[wid] at hj;obtain rfl:j=0:=(by omega);exact iw (a:= .bo f l) rfl hs h
 | .jT T a,s,o,hs,h,j,hj=>by simp only[wid] at hj;obtain rfl:j=0:=(by omega);exact iw (a:= .jT T a) rfl hs h
 | .fh K V ks vs,s,o,hs,h,j,hj=>by simp only[wid] at hj;obtain rfl:j=0:=(by omega);exact iw (a:= .fh K V ks vs) rfl hs h
theorem DV{C:Ctx}: ∀(l:List AV) (s:Src) (o:Nat),eh l=true->ML C l s o->∀j,j<fc l->∃v,s (o+j)=some v/\bj v=true
 |[],_,_,_,_,j,hj=>by simp[fc] at hj
 | a::l,s,o,hs,h,j,hj=>by
  simp only[eh,aC6] at hs;simp only[ML] at h;simp only[fc] at hj;rcases Nat.lt_or_ge j (wid a) with hlt|hge
  ·exact IZ a s o hs.1 h.1 j hlt
  ·obtain⟨v,h1,h2⟩:=DV l s (o+wid a) hs.2 h.2 (j - wid a) (by omega)
   exact⟨v,by rw[←h1];congr 1;omega,h2⟩
end
theorem rq{C a v}(d:cX a=true)(c:Rel C a v): ∀u,u∈v.cells.toList->u.oneCell'=true:=by
 intro u f;obtain⟨j,e,rfl⟩:=List.getElem_of_mem f;have b:a≠ .cP:=by grind [cX]
 have g:=c.2.1.resolve_right b;simp   at e;obtain⟨w,i,h⟩:=IZ a _ 0 d c.2.2 j (by omega)
 grind [uw]
theorem bL(w:World) o b(h:b<w.heap.size):(w.alloc o).heap[b]? =w.heap[b]? :=by
 show(w.heap.push o)[b]? =_
 grind
theorem alloc_heap_new(w:World) o:(w.alloc o).heap[w.heap.size]? =some o:=by
 show(w.heap.push o)[w.heap.size]? =_
 simp
theorem dd(w:World) o:(w.alloc o).heap.size=w.heap.size+1:=by
 simp
theorem ia w o:er w (w.alloc o):=⟨rfl,rfl,rfl⟩
theorem j1{C}(d:Inv C){o g w}(a: ∀b,b<C.w.heap.size->w.heap[b]? =C.w.heap[b]?):bW C (C.add o g w):=
 ⟨rfl,fun _ h=>h,fun b c=>a b (d.xs b c)⟩
theorem w8{C}(d:Inv C){o g w}(a: ∀b,b<C.w.heap.size->w.heap[b]? =C.w.heap[b]?){i}(c:i<C.st.length):cj C (C.add o g w) i i:=
 eQ d c (by grind [Ctx.add]) (cD c).1 (cD c).2 fun h b e=>⟨rfl,rfl,a _ (d.dG ⟨i,c,h,e.symm⟩).1⟩
theorem jk(w:World) a T b j:cellAt (w.alloc (.cells a T b)) w.heap.size j=a[j]? :=by
 grind [cellAt,World.cell?,alloc_heap_new]
theorem I6{C}(e:Inv C){T a v}(l:Rel C a v)(n:cX a=true):
  Inv (C.add (.box T a) ⟨C.w.heap.size,0,false⟩ (C.w.alloc (.cells v.cells T)))/\Ext C.st.length C (C.add (.box T a) ⟨C.w.heap.size,0,false⟩ (C.w.alloc (.cells v.cells T)))/\
  Rel (C.add (.box T a) ⟨C.w.heap.size,0,false⟩ (C.w.alloc (.cells v.cells T))) (.ptr C.st.length 0 [] 0) (.pointer (some ⟨C.w.heap.size,0,none⟩)):=by
 have f:a≠ .cP:=by grind [cX]
 have d:=bL C.w (.cells v.cells T);have m:=l.2.1.resolve_right f;have h:=gm e (o:= .box T a) (g:=⟨C.w.heap.size,0,false⟩)  rfl (by rw[dd];omega) (ia _ _) d (by
  refine⟨fun h=>by have:=e.xs _ h;simp at this,n,v.cells,T,alloc_heap_new _ _,⟨by omega,by omega,rfl⟩,?_⟩;exact M.gI (j1 e d) e.lay (fun i _ k=>w8 e d k) (fun j _=>by exact jk _ _ _ _ _) l.2.2)
 refine⟨h.1,h.2,eu rfl rfl ?_ h.1⟩;simp only[M];refine⟨by simp[Ctx.add],_,rfl,rfl,fun p xs c=>?_,fun p b c=>?_,fun _ _ _ c=>(by rw[bC.1] at c;cases c),fun _ _ c=>(by rw[bC.1] at c;cases c),fun _ _ _ _ _ c=>(by rw[bC.1] at c;cases c),fun _ _ _ _ c=>(by rw[bC.1] at c;cases c)⟩
 ·rw[bC.1] at c;simp[iL] at c
 grind [bC]
mutual
theorem rM{P:Program}: ∀(a:AV) (T:TypeId),bE P a T->cX a=true
 | .lit v,T,h=>by
  simp only[bE] at h;simp only[cX];split at h<;>first
   |(obtain⟨_,rfl⟩:=h;rfl)
   |(subst h;rfl)
   |exact h.elim
   |exact h
 | .ah _ _,_,_=>by simp[cX]
 | .agg l,T,h=>by
  simp only[bE] at h;obtain⟨fs,_,h⟩:=h;simp only[cX];exact vz l _ h
 | .jK _ _,_,_=>by simp[cX]
 | .jT _ _,_,_=>by simp[cX]
 | .fh _ _ _ _,_,_=>by simp[cX]
 | .cP,_,h| .aH _,_,h| .ak _ _ _,_,h| .ptr _ _ _ _,_,h| .mp _,_,h| .cn _,_,h| .lZ _ _,_,h| .bo _ _,_,h=>by simp[bE] at h
theorem vz{P:Program}: ∀(l:List AV) (fs:List Field),eB P l fs->eh l=true
 |[],_,_=>by simp[eh]
 |_::_,[],h=>by simp[eB] at h
 |a::l,f::fs,h=>by
  simp only[eB] at h;simp only[eh,aC6];exact⟨rM a _ h.1,vz l fs h.2⟩
end
theorem Stepped.mk'{C C'}(hI:Inv C){s act}(hs:dr C s act){dst r K x v}
  (hr:r= .ok (.value v) C'.w\/r= .ok .skip C'.w/\v=undef) (hI':Inv C') (he:Ext C.st.length C C') (hx:Rel C' x v) (hK:K (put {s with st:=C'.st} dst x)):Stepped C act dst r K:=
 ⟨v,_,hr,_,_,rfl,he.keeps.P,hI',(hs.step hI he).put hx,he,hK⟩
theorem H6{P w} T v:(newVar T v).run P w= .ok ⟨w.heap.size,0,none⟩ (w.alloc (.cells v.cells T)):=rfl
theorem Gg{C}(b:Inv C){T z}(h:K3 C.P T=some z): ∃i a,C.P.info? T=some i/\i.zero=some a/\Rel C z a/\cX z=true:=by
 unfold K3 at h;split at h
 ·rename_i y e
  cases h;obtain⟨i,a,h1,h2,h3,_,h4⟩:=ez b e;exact⟨i,a,h1,h2,h3,rM _ _ h4⟩
 ·split at h
  ·rename_i l e
   split at h
   ·rename_i hs
    cases h;obtain⟨_,_,i,q,_,_,h1,h2,_,_,h5,h6⟩:=Ab (C:=C) e;exact⟨i,_,h1,h2,nD b (s:=fun j=>q[j]?) (o:=0) (by simpa[M] using h5) (by simpa[wid] using h6) (fun j _=>by simp),by simpa[cX] using hs⟩
   ·cases h
  ·cases h
theorem D1{C}(d:Inv C){s a}(g:dr C s a){b T z K}(j:K3 C.P T=some z)
  (l:K (put {s with st:=s.st++[.box T z]} b (.ptr s.st.length 0 [] 0))) {o} (h:o.op= .alloc T):Stepped C a b ((execOp a.eval o).run C.P C.w) K:=by
 obtain⟨i,q,k,c,f,e⟩:=Gg d j;obtain⟨n,m,p⟩:=I6 d  f e;refine Stepped.mk' d g  (.inl ?_) n m p (by simpa[Ctx.add,g.st] using l);simp[execOp,h,Instr.alloc,jM k c];rfl
theorem Li{C}(e:Inv C){s a}(d:dr C s a){b T x K}(c:cX (ev s x)=true)
  (f:K (put {s with st:=s.st++[.box T (ev s x)]} b (.ptr s.st.length 0 [] 0))) {o} (g:o.op= .box T x):Stepped C a b ((execOp a.eval o).run C.P C.w) K:=by
 obtain⟨h,i,j⟩:=I6 e  (bz d x) c;refine Stepped.mk' e d  (.inl ?_) h i j (by simpa[Ctx.add,d.st] using f);simp[execOp,g];rfl
theorem Zk{A}(a:Inv A){X:Nat->Prop}(n: ∀b,Own A b-> ¬ X b)(l: ∀b,A.cls b≠b-> ¬ X b)(m: ∀b,X b->b<A.w.heap.size):
  Inv {A with X:=fun b=>A.X b\/X b}/\bW A {A with X:=fun b=>A.X b\/X b}/\∀i,i<A.st.length->cj A {A with X:=fun b=>A.X b\/X b} i i:=by
 have f:bW A {A with X:=fun b=>A.X b\/X b}:=⟨rfl,by grind,by simp⟩
 have d: ∀i,i<A.st.length->cj A {A with X:=fun b=>A.X b\/X b} i i:=fun i h=>eQ a h h rfl rfl (by simp)
 refine⟨⟨a.lay,fun j e=>?_,a.tH,fun b c=>c.elim (a.xs b) (m b),a.fz,fun b c=>⟨(a.oX b c).1,fun g=>g.elim (a.oX b c).2.1 (l b c),(a.oX b c).2.2⟩,a.mo f⟩,f,d⟩;exact(a.obj j e).gI f a.lay (by grind) (a.fz j e) ⟨fun b k c=>⟨fun g=>g.elim (a.dG ⟨j,e,k,c.symm⟩).2 (n b ⟨j,e,k,c.symm⟩),rfl⟩,by simp,er.refl _,Nat.le_refl _,by simp⟩
theorem LN{C}(k:Inv C){s f}(r:dr C s f){n T x K}(B:xl C.P (ev s x) T=true)
  (y:K (put {s with st:=s.st++[.dead]} n (.jK T (ev s x)))) {o} (p:o.op= .box T x):Stepped C f n ((execOp f.eval o).run C.P C.w) K:=by
 have q:=bz r x;generalize ev s x=a at B y q
 generalize D:f.eval x=v at q
 have A:=iT a T _ _ B q.2.2;have m:=bL C.w (.cells v.cells T);obtain⟨H,c⟩:=gm k (o:= .dead) (g:=⟨C.w.heap.size,0,false⟩) (w:=C.w.alloc (.cells v.cells T)) rfl (by rw[dd];omega) (ia _ _) m trivial;have l:C.cls C.w.heap.size=C.w.heap.size:=k.fresh (Nat.le_refl _);obtain⟨u,E,F⟩:=Zk H (X:=fun b=>b=C.w.heap.size) (by
  rintro b ⟨i,t,p,h⟩ rfl;by_cases d:i<C.st.length
  ·rw[(cD d).1,(cD d).2] at p
   rw[(cD d).2] at h;have:=((k.obj i d).lt p).1
   rw[h] at this;rw[show(C.add .dead ⟨C.w.heap.size,0,false⟩ (C.w.alloc (.cells v.cells T))).cls C.w.heap.size=C.cls C.w.heap.size from rfl,l] at this;omega
  grind [Ctx.add,bC,cC]) (by rintro b h rfl;exact h l) (by rintro b rfl;show _<(C.w.alloc _).heap.size;rw[dd];omega)
 have z:Ext C.st.length C _:=
  ⟨c.keeps.trans E,c.size,c.os,c.tape,c.output,c.frame,fun b h=>h.elim (c.rH b) (fun e=> .inr (.inr (by omega))),c.gT,fun i t=>(c.refs i t).trans (F i (c.refs i t).lt),c.cls,c.mX⟩
 refine Stepped.mk' k r (v:= .pointer (some ⟨C.w.heap.size,0,none⟩)) (x:= .jK T a) (.inl ?_) u z (eu rfl rfl ?_ u) (by simpa[Ctx.add,r.st] using y)
 ·simp[execOp,p,Instr.box,H6,D];rfl
 ·simp only[M]
  refine⟨C.w.heap.size,0,rfl, .inr rfl,A,mH z.keeps k.lay a T _ _ 0 0 A (fun j _=>?_) q.2.2⟩;simp only[Nat.zero_add];exact jk _ _ _ _ _
theorem zJ{C}(f:Inv C){s a}(i:dr C s a){b T d e K}(k:C.P.underlying T=some (.map d e))
  (l:K (put {s with st:=s.st++[.map d e []]} b (.mp s.st.length))) {o} (j:o.op= .makeMap T none):Stepped C a b ((execOp a.eval o).run C.P C.w) K:=by
 have c:=bL C.w (.map #[] 0);have h:=gm f (o:= .map d e []) (g:=⟨C.w.heap.size,0,false⟩)  rfl (by simp) (ia _ _) c (by
  refine⟨fun h=>by have:=f.xs _ h;grind, #[],0,alloc_heap_new _ _,by simp[cF],⟨by simp,by simp,by simp,by simp⟩⟩)
 refine Stepped.mk' f i (v:= .map (some C.w.heap.size)) (x:= .mp C.st.length) (.inl ?_) h.1 h.2 (eu rfl rfl ?_ h.1) (by simpa[Ctx.add,i.st] using l)
 ·simp[execOp,j];rfl
 ·refine⟨by simp[Ctx.add],_,rfl,rfl,fun n p q m=>?_⟩
  rw[bC.2]
end Go.Dn
