import Derived.Test.YtioeffnadipbaaaGreatDoorDnM
namespace Go.Dn
open Go
def Stepped C(act:Act) dst(r:Result Next)(K:S->Prop):=
 ∃v w',(r= .ok (.value v) w'\/r= .ok .skip w'/\v=undef)/\∃C' s',C'.w=w'/\C'.P=C.P/\Inv C'/\dh C' s' (act.put dst v)/\Ext C.st.length C C'/\K s'
theorem tF v:bg v=v.oneCell':=rfl
mutual
theorem Gu{C:Ctx}: ∀(a:AV) (s:Src) (o:Nat),cR a=true->M C a s o->∀j,j<wid a->∃v,s (o+j)=some v/\bg v=true
 | .agg l,s,o,hs,h,j,hj=>by
  simp only[cR] at hs;simp only[M] at h;simp only[wid] at hj
  exact Cc l s o hs h j hj
 | .cK,_,_,hs,_,_,_| .aK _,_,_,hs,_,_,_=>by simp[cR] at hs
 | .lit v,s,o,hs,h,j,hj=>by
  simp only[wid] at hj;obtain rfl:j=0:=by omega
  exact gX (a:= .lit v) rfl hs h
 | .ad T l,s,o,hs,h,j,hj=>by simp only[wid] at hj;obtain rfl:j=0:=(by omega);exact gX (a:= .ad T l) rfl hs h
 | .ax i lo n,s,o,hs,h,j,hj=>by simp only[wid] at hj;obtain rfl:j=0:=(by omega);exact gX (a:= .ax i lo n) rfl hs h
 | .ptr i k p f,s,o,hs,h,j,hj=>by simp only[wid] at hj;obtain rfl:j=0:=(by omega);exact gX (a:= .ptr i k p f) rfl hs h
 | .jA T a,s,o,hs,h,j,hj=>by simp only[wid] at hj;obtain rfl:j=0:=(by omega);exact gX (a:= .jA T a) rfl hs h
 | .mp i,s,o,hs,h,j,hj=>by simp only[wid] at hj;obtain rfl:j=0:=(by omega);exact gX (a:= .mp i) rfl hs h
 | .bJ i,s,o,hs,h,j,hj=>by simp only[wid] at hj;obtain rfl:j=0:=(by omega);exact gX (a:= .bJ i) rfl hs h
 | .lC i k,s,o,hs,h,j,hj=>by simp only[wid] at hj;obtain rfl:j=0:=(by omega);exact gX (a:= .lC i k) rfl hs h
 | .bp f l,s,o,hs,h,j,hj=>by simp only[wid] at hj;obtain rfl:j=0:=(by omega);exact gX (a:= .bp f l) rfl hs h
 | .jz T a,s,o,hs,h,j,hj=>by simp only[wid] at hj;obtain rfl:j=0:=(by omega);exact gX (a:= .jz T a) rfl hs h
 | .eO K V ks vs,s,o,hs,h,j,hj=>by simp only[wid] at hj;obtain rfl:j=0:=(by omega);exact gX (a:= .eO K V ks vs) rfl hs h
theorem Cc{C:Ctx}: ∀(l:List AV) (s:Src) (o:Nat),dL l=true->ML C l s o->∀j,j<eL l->∃v,s (o+j)=some v/\bg v=true
 |[],_,_,_,_,j,hj=>by simp[eL] at hj
 | a::l,s,o,hs,h,j,hj=>by
  simp only[dL,an3] at hs;simp only[ML] at h;simp only[eL] at hj;rcases Nat.lt_or_ge j (wid a) with hlt|hge
  ·exact Gu a s o hs.1 h.1 j hlt
  ·obtain⟨v,h1,h2⟩:=Cc l s (o+wid a) hs.2 h.2 (j - wid a) (by omega)
   exact⟨v,by rw[←h1];congr 1;omega,h2⟩
end
theorem qM{C a v}(d:cR a=true)(c:Rel C a v): ∀u,u∈v.cells.toList->u.oneCell'=true:=by
 intro u f;obtain⟨j,e,rfl⟩:=List.getElem_of_mem f;have b:a≠ .cK:=by grind [cR]
 have g:=c.2.1.resolve_right b;simp   at e;obtain⟨w,i,h⟩:=Gu a _ 0 d c.2.2 j (by omega)
 grind [tF]
theorem bG(w:World) o b(h:b<w.heap.size):(w.alloc o).heap[b]? =w.heap[b]? :=by
 show(w.heap.push o)[b]? =_
 grind
theorem alloc_heap_new(w:World) o:(w.alloc o).heap[w.heap.size]? =some o:=by
 show(w.heap.push o)[w.heap.size]? =_
 simp
theorem db(w:World) o:(w.alloc o).heap.size=w.heap.size+1:=by
 simp
theorem gL w o:dT w (w.alloc o):=⟨rfl,rfl,rfl⟩
theorem jE{C}(d:Inv C){o g w}(a: ∀b,b<C.w.heap.size->w.heap[b]? =C.w.heap[b]?):bK C (C.add o g w):=
 ⟨rfl,fun _ h=>h,fun b c=>a b (d.xs b c)⟩
theorem vO{C}(d:Inv C){o g w}(a: ∀b,b<C.w.heap.size->w.heap[b]? =C.w.heap[b]?){i}(c:i<C.st.length):bW C (C.add o g w) i i:=
 dW d c (by grind [Ctx.add]) (cw c).1 (cw c).2 fun h b e=>⟨rfl,rfl,a _ (d.dA ⟨i,c,h,e.symm⟩).1⟩
theorem iI(w:World) a T b j:cellAt (w.alloc (.cells a T b)) w.heap.size j=a[j]? :=by
 grind [cellAt,World.cell?,alloc_heap_new]
theorem GA{C}(e:Inv C){T a v}(l:Rel C a v)(n:cR a=true):
  Inv (C.add (.box T a) ⟨C.w.heap.size,0,false⟩ (C.w.alloc (.cells v.cells T)))/\Ext C.st.length C (C.add (.box T a) ⟨C.w.heap.size,0,false⟩ (C.w.alloc (.cells v.cells T)))/\
  Rel (C.add (.box T a) ⟨C.w.heap.size,0,false⟩ (C.w.alloc (.cells v.cells T))) (.ptr C.st.length 0 [] 0) (.pointer (some ⟨C.w.heap.size,0,none⟩)):=by
 have f:a≠ .cK:=by grind [cR]
 have d:=bG C.w (.cells v.cells T);have m:=l.2.1.resolve_right f;have h:=gh e (o:= .box T a) (g:=⟨C.w.heap.size,0,false⟩)  rfl (by rw[db];omega) (gL _ _) d (by
  refine⟨fun h=>by have:=e.xs _ h;simp at this,n,v.cells,T,alloc_heap_new _ _,⟨by omega,by omega,rfl⟩,?_⟩;exact M.gr (jE e d) e.lay (fun i _ k=>vO e d k) (fun j _=>by exact iI _ _ _ _ _) l.2.2)
 refine⟨h.1,h.2,dX rfl rfl ?_ h.1⟩;simp only[M];refine⟨by simp[Ctx.add],_,rfl,rfl,fun p xs c=>?_,fun p b c=>?_,fun _ _ _ c=>(by rw[br.1] at c;cases c),fun _ _ c=>(by rw[br.1] at c;cases c),fun _ _ _ _ _ c=>(by rw[br.1] at c;cases c),fun _ _ _ _ c=>(by rw[br.1] at c;cases c)⟩
 ·rw[br.1] at c;simp[ib] at c
 grind [br]
mutual
theorem rf{P:Program}: ∀(a:AV) (T:TypeId),bu P a T->cR a=true
 | .lit v,T,h=>by
  simp only[bu] at h;simp only[cR];split at h<;>first
   |(obtain⟨_,rfl⟩:=h;rfl)
   |(subst h;rfl)
   |exact h.elim
   |exact h
 | .ad _ _,_,_=>by simp[cR]
 | .agg l,T,h=>by
  simp only[bu] at h;obtain⟨fs,_,h⟩:=h;simp only[cR];exact uL l _ h
 | .jA _ _,_,_=>by simp[cR]
 | .jz _ _,_,_=>by simp[cR]
 | .eO _ _ _ _,_,_=>by simp[cR]
 | .cK,_,h| .aK _,_,h| .ax _ _ _,_,h| .ptr _ _ _ _,_,h| .mp _,_,h| .bJ _,_,h| .lC _ _,_,h| .bp _ _,_,h=>by simp[bu] at h
theorem uL{P:Program}: ∀(l:List AV) (fs:List Field),ea P l fs->dL l=true
 |[],_,_=>by simp[dL]
 |_::_,[],h=>by simp[ea] at h
 |a::l,f::fs,h=>by
  simp only[ea] at h;simp only[dL,an3];exact⟨rf a _ h.1,uL l fs h.2⟩
end
theorem Stepped.mk'{C C'}(hI:Inv C){s act}(hs:dh C s act){dst r K x v}
  (hr:r= .ok (.value v) C'.w\/r= .ok .skip C'.w/\v=undef) (hI':Inv C') (he:Ext C.st.length C C') (hx:Rel C' x v) (hK:K (put {s with st:=C'.st} dst x)):Stepped C act dst r K:=
 ⟨v,_,hr,_,_,rfl,he.keeps.P,hI',(hs.step hI he).put hx,he,hK⟩
theorem FR{P w} T v:(newVar T v).run P w= .ok ⟨w.heap.size,0,none⟩ (w.alloc (.cells v.cells T)):=rfl
theorem Eb{C}(b:Inv C){T z}(h:IA C.P T=some z): ∃i a,C.P.info? T=some i/\i.zero=some a/\Rel C z a/\cR z=true:=by
 unfold IA at h;split at h
 ·rename_i y e
  cases h;obtain⟨i,a,h1,h2,h3,_,h4⟩:=dY b e;exact⟨i,a,h1,h2,h3,rf _ _ h4⟩
 ·split at h
  ·rename_i l e
   split at h
   ·rename_i hs
    cases h;obtain⟨_,_,i,q,_,_,h1,h2,_,_,h5,h6⟩:=yN (C:=C) e;exact⟨i,_,h1,h2,mP b (s:=fun j=>q[j]?) (o:=0) (by simpa[M] using h5) (by simpa[wid] using h6) (fun j _=>by simp),by simpa[cR] using hs⟩
   ·cases h
  ·cases h
theorem Ch{C}(d:Inv C){s a}(g:dh C s a){b T z K}(j:IA C.P T=some z)
  (l:K (put {s with st:=s.st++[.box T z]} b (.ptr s.st.length 0 [] 0))) {o} (h:o.op= .alloc T):Stepped C a b ((execOp a.eval o).run C.P C.w) K:=by
 obtain⟨i,q,k,c,f,e⟩:=Eb d j;obtain⟨n,m,p⟩:=GA d  f e;refine Stepped.mk' d g  (.inl ?_) n m p (by simpa[Ctx.add,g.st] using l);simp[execOp,h,Instr.alloc,jq k c];rfl
theorem IT{C}(e:Inv C){s a}(d:dh C s a){b T x K}(c:cR (ev s x)=true)
  (f:K (put {s with st:=s.st++[.box T (ev s x)]} b (.ptr s.st.length 0 [] 0))) {o} (g:o.op= .box T x):Stepped C a b ((execOp a.eval o).run C.P C.w) K:=by
 obtain⟨h,i,j⟩:=GA e  (bo d x) c;refine Stepped.mk' e d  (.inl ?_) h i j (by simpa[Ctx.add,d.st] using f);simp[execOp,g];rfl
theorem Vc{A}(a:Inv A){X:Nat->Prop}(n: ∀b,Own A b-> ¬ X b)(l: ∀b,A.cls b≠b-> ¬ X b)(m: ∀b,X b->b<A.w.heap.size):
  Inv {A with X:=fun b=>A.X b\/X b}/\bK A {A with X:=fun b=>A.X b\/X b}/\∀i,i<A.st.length->bW A {A with X:=fun b=>A.X b\/X b} i i:=by
 have f:bK A {A with X:=fun b=>A.X b\/X b}:=⟨rfl,by grind,by simp⟩
 have d: ∀i,i<A.st.length->bW A {A with X:=fun b=>A.X b\/X b} i i:=fun i h=>dW a h h rfl rfl (by simp)
 refine⟨⟨a.lay,fun j e=>?_,a.u0,fun b c=>c.elim (a.xs b) (m b),a.eZ,fun b c=>⟨(a.ot b c).1,fun g=>g.elim (a.ot b c).2.1 (l b c),(a.ot b c).2.2⟩,a.lR f⟩,f,d⟩;exact(a.obj j e).gr f a.lay (by grind) (a.eZ j e) ⟨fun b k c=>⟨fun g=>g.elim (a.dA ⟨j,e,k,c.symm⟩).2 (n b ⟨j,e,k,c.symm⟩),rfl⟩,by simp,dT.refl _,Nat.le_refl _,by simp⟩
theorem Jj{C}(k:Inv C){s f}(r:dh C s f){n T x K}(B:wa C.P (ev s x) T=true)
  (y:K (put {s with st:=s.st++[.dead]} n (.jA T (ev s x)))) {o} (p:o.op= .box T x):Stepped C f n ((execOp f.eval o).run C.P C.w) K:=by
 have q:=bo r x;generalize ev s x=a at B y q
 generalize D:f.eval x=v at q
 have A:=iq a T _ _ B q.2.2;have m:=bG C.w (.cells v.cells T);obtain⟨H,c⟩:=gh k (o:= .dead) (g:=⟨C.w.heap.size,0,false⟩) (w:=C.w.alloc (.cells v.cells T)) rfl (by rw[db];omega) (gL _ _) m trivial;have l:C.cls C.w.heap.size=C.w.heap.size:=k.fresh (Nat.le_refl _);obtain⟨u,E,F⟩:=Vc H (X:=fun b=>b=C.w.heap.size) (by
  rintro b ⟨i,t,p,h⟩ rfl;by_cases d:i<C.st.length
  ·rw[(cw d).1,(cw d).2] at p
   rw[(cw d).2] at h;have:=((k.obj i d).lt p).1
   rw[h] at this;rw[show(C.add .dead ⟨C.w.heap.size,0,false⟩ (C.w.alloc (.cells v.cells T))).cls C.w.heap.size=C.cls C.w.heap.size from rfl,l] at this;omega
  grind [Ctx.add,br,cv]) (by rintro b h rfl;exact h l) (by rintro b rfl;show _<(C.w.alloc _).heap.size;rw[db];omega)
 have z:Ext C.st.length C _:=
  ⟨c.keeps.trans E,c.size,c.os,c.tape,c.output,c.frame,fun b h=>h.elim (c.qW b) (fun e=> .inr (.inr (by omega))),c.gC,fun i t=>(c.refs i t).trans (F i (c.refs i t).lt),c.cls,c.mv⟩
 refine Stepped.mk' k r (v:= .pointer (some ⟨C.w.heap.size,0,none⟩)) (x:= .jA T a) (.inl ?_) u z (dX rfl rfl ?_ u) (by simpa[Ctx.add,r.st] using y)
 ·simp[execOp,p,Instr.box,FR,D];rfl
 ·simp only[M]
  refine⟨C.w.heap.size,0,rfl, .inr rfl,A,mg z.keeps k.lay a T _ _ 0 0 A (fun j _=>?_) q.2.2⟩;simp only[Nat.zero_add];exact iI _ _ _ _ _
theorem yt{C}(f:Inv C){s a}(i:dh C s a){b T d e K}(k:C.P.underlying T=some (.map d e))
  (l:K (put {s with st:=s.st++[.map d e []]} b (.mp s.st.length))) {o} (j:o.op= .makeMap T none):Stepped C a b ((execOp a.eval o).run C.P C.w) K:=by
 have c:=bG C.w (.map #[] 0);have h:=gh f (o:= .map d e []) (g:=⟨C.w.heap.size,0,false⟩)  rfl (by simp) (gL _ _) c (by
  refine⟨fun h=>by have:=f.xs _ h;grind, #[],0,alloc_heap_new _ _,by simp[cE],⟨by simp,by simp,by simp,by simp⟩⟩)
 refine Stepped.mk' f i (v:= .map (some C.w.heap.size)) (x:= .mp C.st.length) (.inl ?_) h.1 h.2 (dX rfl rfl ?_ h.1) (by simpa[Ctx.add,i.st] using l)
 ·simp[execOp,j];rfl
 ·refine⟨by simp[Ctx.add],_,rfl,rfl,fun n p q m=>?_⟩
  rw[br.2]
end Go.Dn
