import Derived.Test.YtioeffnadipbaaaGreatDoorDnM
namespace Go.Dn
open Go
def Stepped C(act:Act) dst(r:Result Next)(K:S->Prop):=
 ∃v w',(r= .ok (.value v) w'\/r= .ok .skip w'/\v=undef)/\∃C' s',C'.w=w'/\C'.P=C.P/\Inv C'/\cZ C' s' (act.put dst v)/\Ext C.st.length C C'/\K s'
theorem tv v:bf v=v.oneCell':=rfl
mutual
theorem I5{C:Ctx}: ∀(a:AV) (s:Src) (o:Nat),cQ a=true->M C a s o->∀j,j<wid a->∃v,s (o+j)=some v/\bf v=true
 | .agg l,s,o,hs,h,j,hj=>by
  simp only[cQ] at hs;simp only[M] at h;simp only[wid] at hj
  exact Dv l s o hs h j hj
 | .cB,_,_,hs,_,_,_| .aJ _,_,_,hs,_,_,_=>by simp[cQ] at hs
 | .lit v,s,o,hs,h,j,hj=>by
  simp only[wid] at hj;obtain rfl:j=0:=by omega
  exact gY (a:= .lit v) rfl hs h
 | .ah T l,s,o,hs,h,j,hj=>by simp only[wid] at hj;obtain rfl:j=0:=(by omega);exact gY (a:= .ah T l) rfl hs h
 | .ak i lo n,s,o,hs,h,j,hj=>by simp only[wid] at hj;obtain rfl:j=0:=(by omega);exact gY (a:= .ak i lo n) rfl hs h
 | .ptr i k p f,s,o,hs,h,j,hj=>by simp only[wid] at hj;obtain rfl:j=0:=(by omega);exact gY (a:= .ptr i k p f) rfl hs h
 | .js T a,s,o,hs,h,j,hj=>by simp only[wid] at hj;obtain rfl:j=0:=(by omega);exact gY (a:= .js T a) rfl hs h
 | .mp i,s,o,hs,h,j,hj=>by simp only[wid] at hj;obtain rfl:j=0:=(by omega);exact gY (a:= .mp i) rfl hs h
 | .cf i,s,o,hs,h,j,hj=>by simp only[wid] at hj;obtain rfl:j=0:=(by omega);exact gY (a:= .cf i) rfl hs h
 | .lx i k,s,o,hs,h,j,hj=>by simp only[wid] at hj;obtain rfl:j=0:=(by omega);exact gY (a:= .lx i k) rfl hs h
 | .bm f l,s,o,hs,h,j,hj=>by simp only[wid] at hj;obtain rfl:j=0:=(by omega);exact gY (a:= .bm f l) rfl hs h
 | .jz T a,s,o,hs,h,j,hj=>by simp only[wid] at hj;obtain rfl:j=0:=(by omega);exact gY (a:= .jz T a) rfl hs h
 | .eP K V ks vs,s,o,hs,h,j,hj=>by simp only[wid] at hj;obtain rfl:j=0:=(by omega);exact gY (a:= .eP K V ks vs) rfl hs h
theorem Dv{C:Ctx}: ∀(l:List AV) (s:Src) (o:Nat),dO l=true->ML C l s o->∀j,j<eu l->∃v,s (o+j)=some v/\bf v=true
 |[],_,_,_,_,j,hj=>by simp[eu] at hj
 | a::l,s,o,hs,h,j,hj=>by
  simp only[dO,an3] at hs;simp only[ML] at h;simp only[eu] at hj;rcases Nat.lt_or_ge j (wid a) with hlt|hge
  ·exact I5 a s o hs.1 h.1 j hlt
  ·obtain⟨v,h1,h2⟩:=Dv l s (o+wid a) hs.2 h.2 (j - wid a) (by omega)
   exact⟨v,by rw[←h1];congr 1;omega,h2⟩
end
theorem qX{C a v}(d:cQ a=true)(c:Rel C a v): ∀u,u∈v.cells.toList->u.oneCell'=true:=by
 intro u f;obtain⟨j,e,rfl⟩:=List.getElem_of_mem f;have b:a≠ .cB:=by grind [cQ]
 have g:=c.2.1.resolve_right b;simp   at e;obtain⟨w,i,h⟩:=I5 a _ 0 d c.2.2 j (by omega)
 grind [tv]
theorem bJ(w:World) o b(h:b<w.heap.size):(w.alloc o).heap[b]? =w.heap[b]? :=by
 show(w.heap.push o)[b]? =_
 grind
theorem alloc_heap_new(w:World) o:(w.alloc o).heap[w.heap.size]? =some o:=by
 show(w.heap.push o)[w.heap.size]? =_
 simp
theorem cP(w:World) o:(w.alloc o).heap.size=w.heap.size+1:=by
 simp
theorem gH w o:dN w (w.alloc o):=⟨rfl,rfl,rfl⟩
theorem jI{C}(d:Inv C){o g w}(a: ∀b,b<C.w.heap.size->w.heap[b]? =C.w.heap[b]?):bQ C (C.add o g w):=
 ⟨rfl,fun _ h=>h,fun b c=>a b (d.xs b c)⟩
theorem wz{C}(d:Inv C){o g w}(a: ∀b,b<C.w.heap.size->w.heap[b]? =C.w.heap[b]?){i}(c:i<C.st.length):b7 C (C.add o g w) i i:=
 ee d c (by grind [Ctx.add]) (cu c).1 (cu c).2 fun h b e=>⟨rfl,rfl,a _ (d.dt ⟨i,c,h,e.symm⟩).1⟩
theorem iK(w:World) a T b j:cellAt (w.alloc (.cells a T b)) w.heap.size j=a[j]? :=by
 grind [cellAt,World.cell?,alloc_heap_new]
theorem IN{C}(e:Inv C){T a v}(l:Rel C a v)(n:cQ a=true):
  Inv (C.add (.box T a) ⟨C.w.heap.size,0,false⟩ (C.w.alloc (.cells v.cells T)))/\Ext C.st.length C (C.add (.box T a) ⟨C.w.heap.size,0,false⟩ (C.w.alloc (.cells v.cells T)))/\
  Rel (C.add (.box T a) ⟨C.w.heap.size,0,false⟩ (C.w.alloc (.cells v.cells T))) (.ptr C.st.length 0 [] 0) (.pointer (some ⟨C.w.heap.size,0,none⟩)):=by
 have f:a≠ .cB:=by grind [cQ]
 have d:=bJ C.w (.cells v.cells T);have m:=l.2.1.resolve_right f;have h:=fZ e (o:= .box T a) (g:=⟨C.w.heap.size,0,false⟩)  rfl (by rw[cP];omega) (gH _ _) d (by
  refine⟨fun h=>by have:=e.xs _ h;simp at this,n,v.cells,T,alloc_heap_new _ _,⟨by omega,by omega,rfl⟩,?_⟩;exact M.eY (jI e d) e.lay (fun i _ k=>wz e d k) (fun j _=>by exact iK _ _ _ _ _) l.2.2)
 refine⟨h.1,h.2,dQ rfl rfl ?_ h.1⟩;simp only[M];refine⟨by simp[Ctx.add],_,rfl,rfl,fun p xs c=>?_,fun p b c=>?_,fun _ _ _ c=>(by rw[bx.1] at c;cases c),fun _ _ c=>(by rw[bx.1] at c;cases c),fun _ _ _ _ _ c=>(by rw[bx.1] at c;cases c),fun _ _ _ _ c=>(by rw[bx.1] at c;cases c)⟩
 ·rw[bx.1] at c;simp[ij] at c
 grind [bx]
mutual
theorem qK{P:Program}: ∀(a:AV) (T:TypeId),bz P a T->cQ a=true
 | .lit v,T,h=>by
  simp only[bz] at h;simp only[cQ];split at h<;>first
   |(obtain⟨_,rfl⟩:=h;rfl)
   |(subst h;rfl)
   |exact h.elim
   |exact h
 | .ah _ _,_,_=>by simp[cQ]
 | .agg l,T,h=>by
  simp only[bz] at h;obtain⟨fs,_,h⟩:=h;simp only[cQ];exact um l _ h
 | .js _ _,_,_=>by simp[cQ]
 | .jz _ _,_,_=>by simp[cQ]
 | .eP _ _ _ _,_,_=>by simp[cQ]
 | .cB,_,h| .aJ _,_,h| .ak _ _ _,_,h| .ptr _ _ _ _,_,h| .mp _,_,h| .cf _,_,h| .lx _ _,_,h| .bm _ _,_,h=>by simp[bz] at h
theorem um{P:Program}: ∀(l:List AV) (fs:List Field),dT P l fs->dO l=true
 |[],_,_=>by simp[dO]
 |_::_,[],h=>by simp[dT] at h
 |a::l,f::fs,h=>by
  simp only[dT] at h;simp only[dO,an3];exact⟨qK a _ h.1,um l fs h.2⟩
end
theorem Stepped.mk'{C C'}(hI:Inv C){s act}(hs:cZ C s act){dst r K x v}
  (hr:r= .ok (.value v) C'.w\/r= .ok .skip C'.w/\v=undef) (hI':Inv C') (he:Ext C.st.length C C') (hx:Rel C' x v) (hK:K (put {s with st:=C'.st} dst x)):Stepped C act dst r K:=
 ⟨v,_,hr,_,_,rfl,he.keeps.P,hI',(hs.step hI he).put hx,he,hK⟩
theorem EO{P w} T v:(newVar T v).run P w= .ok ⟨w.heap.size,0,none⟩ (w.alloc (.cells v.cells T)):=rfl
theorem C5{C}(d:Inv C){s a}(g:cZ C s a){b T z K}(j:ib C.P T=some z)
  (l:K (put {s with st:=s.st++[.box T z]} b (.ptr s.st.length 0 [] 0))) {o} (h:o.op= .alloc T):Stepped C a b ((execOp a.eval o).run C.P C.w) K:=by
 obtain⟨i,q,k,c,f,r,e⟩:=dL d j;obtain⟨n,m,p⟩:=IN d  f (qK _ _ e);refine Stepped.mk' d g  (.inl ?_) n m p (by simpa[Ctx.add,g.st] using l);simp[execOp,h,Instr.alloc,jj k c];rfl
theorem Kg{C}(e:Inv C){s a}(d:cZ C s a){b T x K}(c:cQ (ev s x)=true)
  (f:K (put {s with st:=s.st++[.box T (ev s x)]} b (.ptr s.st.length 0 [] 0))) {o} (g:o.op= .box T x):Stepped C a b ((execOp a.eval o).run C.P C.w) K:=by
 obtain⟨h,i,j⟩:=IN e  (bu d x) c;refine Stepped.mk' e d  (.inl ?_) h i j (by simpa[Ctx.add,d.st] using f);simp[execOp,g];rfl
theorem Vo{A}(a:Inv A){X:Nat->Prop}(n: ∀b,Own A b-> ¬ X b)(l: ∀b,A.cls b≠b-> ¬ X b)(m: ∀b,X b->b<A.w.heap.size):
  Inv {A with X:=fun b=>A.X b\/X b}/\bQ A {A with X:=fun b=>A.X b\/X b}/\∀i,i<A.st.length->b7 A {A with X:=fun b=>A.X b\/X b} i i:=by
 have f:bQ A {A with X:=fun b=>A.X b\/X b}:=⟨rfl,by grind,by simp⟩
 have d: ∀i,i<A.st.length->b7 A {A with X:=fun b=>A.X b\/X b} i i:=fun i h=>ee a h h rfl rfl (by simp)
 refine⟨⟨a.lay,fun j e=>?_,a.uS,fun b c=>c.elim (a.xs b) (m b),a.fa,fun b c=>⟨(a.oc b c).1,fun g=>g.elim (a.oc b c).2.1 (l b c),(a.oc b c).2.2⟩,a.lC f⟩,f,d⟩;exact(a.obj j e).eY f a.lay (by grind) (a.fa j e) ⟨fun b k c=>⟨fun g=>g.elim (a.dt ⟨j,e,k,c.symm⟩).2 (n b ⟨j,e,k,c.symm⟩),rfl⟩,by simp,dN.refl _,Nat.le_refl _,by simp⟩
theorem J4{C}(k:Inv C){s f}(r:cZ C s f){n T x K}(B:wJ C.P (ev s x) T=true)
  (y:K (put {s with st:=s.st++[.dead]} n (.js T (ev s x)))) {o} (p:o.op= .box T x):Stepped C f n ((execOp f.eval o).run C.P C.w) K:=by
 have q:=bu r x;generalize ev s x=a at B y q
 generalize D:f.eval x=v at q
 have A:=iv a T _ _ B q.2.2;have m:=bJ C.w (.cells v.cells T);obtain⟨H,c⟩:=fZ k (o:= .dead) (g:=⟨C.w.heap.size,0,false⟩) (w:=C.w.alloc (.cells v.cells T)) rfl (by rw[cP];omega) (gH _ _) m trivial;have l:C.cls C.w.heap.size=C.w.heap.size:=k.fresh (Nat.le_refl _);obtain⟨u,E,F⟩:=Vo H (X:=fun b=>b=C.w.heap.size) (by
  rintro b ⟨i,t,p,h⟩ rfl;by_cases d:i<C.st.length
  ·rw[(cu d).1,(cu d).2] at p
   rw[(cu d).2] at h;have:=((k.obj i d).lt p).1
   rw[h] at this;rw[show(C.add .dead ⟨C.w.heap.size,0,false⟩ (C.w.alloc (.cells v.cells T))).cls C.w.heap.size=C.cls C.w.heap.size from rfl,l] at this;omega
  grind [Ctx.add,bx,ct]) (by rintro b h rfl;exact h l) (by rintro b rfl;show _<(C.w.alloc _).heap.size;rw[cP];omega)
 have z:Ext C.st.length C _:=
  ⟨c.keeps.trans E,c.size,c.os,c.tape,c.output,c.frame,fun b h=>h.elim (c.rj b) (fun e=> .inr (.inr (by omega))),c.gq,fun i t=>(c.refs i t).trans (F i (c.refs i t).lt),c.cls,c.mn⟩
 refine Stepped.mk' k r (v:= .pointer (some ⟨C.w.heap.size,0,none⟩)) (x:= .js T a) (.inl ?_) u z (dQ rfl rfl ?_ u) (by simpa[Ctx.add,r.st] using y)
 ·simp[execOp,p,Instr.box,EO,D];rfl
 ·simp only[M]
  refine⟨C.w.heap.size,0,rfl, .inr rfl,A,mg z.keeps k.lay a T _ _ 0 0 A (fun j _=>?_) q.2.2⟩;simp only[Nat.zero_add];exact iK _ _ _ _ _
theorem yy{C}(f:Inv C){s a}(i:cZ C s a){b T d e K}(_k:C.P.underlying T=some (.map d e))
  (l:K (put {s with st:=s.st++[.map d e []]} b (.mp s.st.length))) {o} (j:o.op= .makeMap T none):Stepped C a b ((execOp a.eval o).run C.P C.w) K:=by
 have c:=bJ C.w (.map #[] 0);have h:=fZ f (o:= .map d e []) (g:=⟨C.w.heap.size,0,false⟩)  rfl (by simp) (gH _ _) c (by
  refine⟨fun h=>by have:=f.xs _ h;grind, #[],0,alloc_heap_new _ _,by simp[cw],⟨by simp,by simp,by simp,by simp⟩⟩)
 refine Stepped.mk' f i (v:= .map (some C.w.heap.size)) (x:= .mp C.st.length) (.inl ?_) h.1 h.2 (dQ rfl rfl ?_ h.1) (by simpa[Ctx.add,i.st] using l)
 ·simp[execOp,j];rfl
 ·refine⟨by simp[Ctx.add],_,rfl,rfl,fun n p q m=>?_⟩
  rw[bx.2]
end Go.Dn
