import Derived.Test.YtioeffnadipbaaaGreatDoorDnM
namespace Go.Dn
open Go
def Stepped C(act:Act) dst(r:Result Next)(K:S->Prop):=
 ∃v w',(r= .ok (.value v) w'\/r= .ok .skip w'/\v=undef)/\∃C' s',C'.w=w'/\C'.P=C.P/\Inv C'/\db C' s' (act.put dst v)/\Ext C.st.length C C'/\K s'
theorem s8 v:bg v=v.oneCell':=rfl
mutual
theorem Hk{C:Ctx}: ∀(a:AV) (s:Src) (o:Nat),cH a=true->M C a s o->∀j,j<wid a->∃v,s (o+j)=some v/\bg v=true
 | .agg l,s,o,hs,h,j,hj=>by
  simp only[cH] at hs;simp only[M] at h;simp only[wid] at hj
  exact Ch l s o hs h j hj
 | .cB,_,_,hs,_,_,_| .aH _,_,_,hs,_,_,_=>by simp[cH] at hs
 | .lit v,s,o,hs,h,j,hj=>by
  simp only[wid] at hj;obtain rfl:j=0:=by omega
  exact gM (a:= .lit v) rfl hs h
 | .ah T l,s,o,hs,h,j,hj=>by simp only[wid] at hj;obtain rfl:j=0:=(by omega);exact gM (a:= .ah T l) rfl hs h
 | .ak i lo n,s,o,hs,h,j,hj=>by simp only[wid] at hj;obtain rfl:j=0:=(by omega);exact gM (a:= .ak i lo n) rfl hs h
 | .ptr i k p f,s,o,hs,h,j,hj=>by simp only[wid] at hj;obtain rfl:j=0:=(by omega);exact gM (a:= .ptr i k p f) rfl hs h
 | .jj T a,s,o,hs,h,j,hj=>by simp only[wid] at hj;obtain rfl:j=0:=(by omega);exact gM (a:= .jj T a) rfl hs h
 | .mp i,s,o,hs,h,j,hj=>by simp only[wid] at hj;obtain rfl:j=0:=(by omega);exact gM (a:= .mp i) rfl hs h
 | .cf i,s,o,hs,h,j,hj=>by simp only[wid] at hj;obtain rfl:j=0:=(by omega);exact gM (a:= .cf i) rfl hs h
 | .lj i k,s,o,hs,h,j,hj=>by simp only[wid] at hj;obtain rfl:j=0:=(by omega);exact gM (a:= .lj i k) rfl hs h
 | .bm f l,s,o,hs,h,j,hj=>by simp only[wid] at hj;obtain rfl:j=0:=(by omega);exact gM (a:= .bm f l) rfl hs h
 | .jt T a,s,o,hs,h,j,hj=>by simp only[wid] at hj;obtain rfl:j=0:=(by omega);exact gM (a:= .jt T a) rfl hs h
 | .eO K V ks vs,s,o,hs,h,j,hj=>by simp only[wid] at hj;obtain rfl:j=0:=(by omega);exact gM (a:= .eO K V ks vs) rfl hs h
theorem Ch{C:Ctx}: ∀(l:List AV) (s:Src) (o:Nat),dJ l=true->ML C l s o->∀j,j<eF l->∃v,s (o+j)=some v/\bg v=true
 |[],_,_,_,_,j,hj=>by simp[eF] at hj
 | a::l,s,o,hs,h,j,hj=>by
  simp only[dJ,ar5] at hs;simp only[ML] at h;simp only[eF] at hj;rcases Nat.lt_or_ge j (wid a) with hlt|hge
  ·exact Hk a s o hs.1 h.1 j hlt
  ·obtain⟨v,h1,h2⟩:=Ch l s (o+wid a) hs.2 h.2 (j - wid a) (by omega)
   exact⟨v,by rw[←h1];congr 1;omega,h2⟩
end
theorem qm{C a v}(d:cH a=true)(c:Rel C a v): ∀u,u∈v.cells.toList->u.oneCell'=true:=by
 intro u f;obtain⟨j,e,rfl⟩:=List.getElem_of_mem f;have b:a≠ .cB:=by grind [cH]
 have g:=c.2.1.resolve_right b;simp   at e;obtain⟨w,i,h⟩:=Hk a _ 0 d c.2.2 j (by omega)
 grind [s8]
theorem bI(w:World) o b(h:b<w.heap.size):(w.alloc o).heap[b]? =w.heap[b]? :=by
 show(w.heap.push o)[b]? =_
 grind
theorem alloc_heap_new(w:World) o:(w.alloc o).heap[w.heap.size]? =some o:=by
 show(w.heap.push o)[w.heap.size]? =_
 simp
theorem cW(w:World) o:(w.alloc o).heap.size=w.heap.size+1:=by
 simp
theorem gA w o:dO w (w.alloc o):=⟨rfl,rfl,rfl⟩
theorem jy{C}(d:Inv C){o g w}(a: ∀b,b<C.w.heap.size->w.heap[b]? =C.w.heap[b]?):bP C (C.add o g w):=
 ⟨rfl,fun _ h=>h,fun b c=>a b (d.xs b c)⟩
theorem vD{C}(d:Inv C){o g w}(a: ∀b,b<C.w.heap.size->w.heap[b]? =C.w.heap[b]?){i}(c:i<C.st.length):b8 C (C.add o g w) i i:=
 eh d c (by grind [Ctx.add]) (ct c).1 (ct c).2 fun h b e=>⟨rfl,rfl,a _ (d.du ⟨i,c,h,e.symm⟩).1⟩
theorem iC(w:World) a T b j:cellAt (w.alloc (.cells a T b)) w.heap.size j=a[j]? :=by
 grind [cellAt,World.cell?,alloc_heap_new]
theorem Hr{C}(e:Inv C){T a v}(l:Rel C a v)(n:cH a=true):
  Inv (C.add (.box T a) ⟨C.w.heap.size,0,false⟩ (C.w.alloc (.cells v.cells T)))/\Ext C.st.length C (C.add (.box T a) ⟨C.w.heap.size,0,false⟩ (C.w.alloc (.cells v.cells T)))/\
  Rel (C.add (.box T a) ⟨C.w.heap.size,0,false⟩ (C.w.alloc (.cells v.cells T))) (.ptr C.st.length 0 [] 0) (.pointer (some ⟨C.w.heap.size,0,none⟩)):=by
 have f:a≠ .cB:=by grind [cH]
 have d:=bI C.w (.cells v.cells T);have m:=l.2.1.resolve_right f;have h:=fL e (o:= .box T a) (g:=⟨C.w.heap.size,0,false⟩)  rfl (by rw[cW];omega) (gA _ _) d (by
  refine⟨fun h=>by have:=e.xs _ h;simp at this,n,v.cells,T,alloc_heap_new _ _,⟨by omega,by omega,rfl⟩,?_⟩;exact M.gf (jy e d) e.lay (fun i _ k=>vD e d k) (fun j _=>by exact iC _ _ _ _ _) l.2.2)
 refine⟨h.1,h.2,dR rfl rfl ?_ h.1⟩;simp only[M];refine⟨by simp[Ctx.add],_,rfl,rfl,fun p xs c=>?_,fun p b c=>?_,fun _ _ _ c=>(by rw[bw.1] at c;cases c),fun _ _ c=>(by rw[bw.1] at c;cases c),fun _ _ _ _ _ c=>(by rw[bw.1] at c;cases c),fun _ _ _ _ c=>(by rw[bw.1] at c;cases c)⟩
 ·rw[bw.1] at c;simp[gX] at c
 grind [bw]
mutual
theorem qD{P:Program}: ∀(a:AV) (T:TypeId),bB P a T->cH a=true
 | .lit v,T,h=>by
  simp only[bB] at h;simp only[cH];split at h<;>first
   |(obtain⟨_,rfl⟩:=h;rfl)
   |(subst h;rfl)
   |exact h.elim
   |exact h
 | .ah _ _,_,_=>by simp[cH]
 | .agg l,T,h=>by
  simp only[bB] at h;obtain⟨fs,_,h⟩:=h;simp only[cH];exact ui l _ h
 | .jj _ _,_,_=>by simp[cH]
 | .jt _ _,_,_=>by simp[cH]
 | .eO _ _ _ _,_,_=>by simp[cH]
 | .cB,_,h| .aH _,_,h| .ak _ _ _,_,h| .ptr _ _ _ _,_,h| .mp _,_,h| .cf _,_,h| .lj _ _,_,h| .bm _ _,_,h=>by simp[bB] at h
theorem ui{P:Program}: ∀(l:List AV) (fs:List Field),dW P l fs->dJ l=true
 |[],_,_=>by simp[dJ]
 |_::_,[],h=>by simp[dW] at h
 |a::l,f::fs,h=>by
  simp only[dW] at h;simp only[dJ,ar5];exact⟨qD a _ h.1,ui l fs h.2⟩
end
theorem Stepped.mk'{C C'}(hI:Inv C){s act}(hs:db C s act){dst r K x v}
  (hr:r= .ok (.value v) C'.w\/r= .ok .skip C'.w/\v=undef) (hI':Inv C') (he:Ext C.st.length C C') (hx:Rel C' x v) (hK:K (put {s with st:=C'.st} dst x)):Stepped C act dst r K:=
 ⟨v,_,hr,_,_,rfl,he.keeps.P,hI',(hs.step hI he).put hx,he,hK⟩
theorem Gt{P w} T v:(newVar T v).run P w= .ok ⟨w.heap.size,0,none⟩ (w.alloc (.cells v.cells T)):=rfl
theorem Eu{C}(b:Inv C){T z}(h:Jp C.P T=some z): ∃i a,C.P.info? T=some i/\i.zero=some a/\Rel C z a/\cH z=true:=by
 unfold Jp at h;split at h
 ·rename_i y e
  cases h;obtain⟨i,a,h1,h2,h3,_,h4⟩:=dT b e;exact⟨i,a,h1,h2,h3,qD _ _ h4⟩
 ·split at h
  ·rename_i l e
   split at h
   ·rename_i hs
    cases h;obtain⟨_,_,i,q,_,_,h1,h2,_,_,h5,h6⟩:=yI (C:=C) e;exact⟨i,_,h1,h2,mD b (s:=fun j=>q[j]?) (o:=0) (by simpa[M] using h5) (by simpa[wid] using h6) (fun j _=>by simp),by simpa[cH] using hs⟩
   ·cases h
  ·cases h
theorem Cn{C}(d:Inv C){s a}(g:db C s a){b T z K}(j:Jp C.P T=some z)
  (l:K (put {s with st:=s.st++[.box T z]} b (.ptr s.st.length 0 [] 0))) {o} (h:o.op= .alloc T):Stepped C a b ((execOp a.eval o).run C.P C.w) K:=by
 obtain⟨i,q,k,c,f,e⟩:=Eu d j;obtain⟨n,m,p⟩:=Hr d  f e;refine Stepped.mk' d g  (.inl ?_) n m p (by simpa[Ctx.add,g.st] using l);simp[execOp,h,Instr.alloc,jm k c];rfl
theorem JB{C}(e:Inv C){s a}(d:db C s a){b T x K}(c:cH (ev s x)=true)
  (f:K (put {s with st:=s.st++[.box T (ev s x)]} b (.ptr s.st.length 0 [] 0))) {o} (g:o.op= .box T x):Stepped C a b ((execOp a.eval o).run C.P C.w) K:=by
 obtain⟨h,i,j⟩:=Hr e  (bt d x) c;refine Stepped.mk' e d  (.inl ?_) h i j (by simpa[Ctx.add,d.st] using f);simp[execOp,g];rfl
theorem Xa{A}(a:Inv A){X:Nat->Prop}(n: ∀b,Own A b-> ¬ X b)(l: ∀b,A.cls b≠b-> ¬ X b)(m: ∀b,X b->b<A.w.heap.size):
  Inv {A with X:=fun b=>A.X b\/X b}/\bP A {A with X:=fun b=>A.X b\/X b}/\∀i,i<A.st.length->b8 A {A with X:=fun b=>A.X b\/X b} i i:=by
 have f:bP A {A with X:=fun b=>A.X b\/X b}:=⟨rfl,by grind,by simp⟩
 have d: ∀i,i<A.st.length->b8 A {A with X:=fun b=>A.X b\/X b} i i:=fun i h=>eh a h h rfl rfl (by simp)
 refine⟨⟨a.lay,fun j e=>?_,a.tX,fun b c=>c.elim (a.xs b) (m b),a.eY,fun b c=>⟨(a.nT b c).1,fun g=>g.elim (a.nT b c).2.1 (l b c),(a.nT b c).2.2⟩,a.lH f⟩,f,d⟩;exact(a.obj j e).gf f a.lay (by grind) (a.eY j e) ⟨fun b k c=>⟨fun g=>g.elim (a.du ⟨j,e,k,c.symm⟩).2 (n b ⟨j,e,k,c.symm⟩),rfl⟩,by simp,dO.refl _,Nat.le_refl _,by simp⟩
theorem J5{C}(k:Inv C){s f}(r:db C s f){n T x K}(B:vU C.P (ev s x) T=true)
  (y:K (put {s with st:=s.st++[.dead]} n (.jj T (ev s x)))) {o} (p:o.op= .box T x):Stepped C f n ((execOp f.eval o).run C.P C.w) K:=by
 have q:=bt r x;generalize ev s x=a at B y q
 generalize D:f.eval x=v at q
 have A:=ib a T _ _ B q.2.2;have m:=bI C.w (.cells v.cells T);obtain⟨H,c⟩:=fL k (o:= .dead) (g:=⟨C.w.heap.size,0,false⟩) (w:=C.w.alloc (.cells v.cells T)) rfl (by rw[cW];omega) (gA _ _) m trivial;have l:C.cls C.w.heap.size=C.w.heap.size:=k.fresh (Nat.le_refl _);obtain⟨u,E,F⟩:=Xa H (X:=fun b=>b=C.w.heap.size) (by
  rintro b ⟨i,t,p,h⟩ rfl;by_cases d:i<C.st.length
  ·rw[(ct d).1,(ct d).2] at p
   rw[(ct d).2] at h;have:=((k.obj i d).lt p).1
   rw[h] at this;rw[show(C.add .dead ⟨C.w.heap.size,0,false⟩ (C.w.alloc (.cells v.cells T))).cls C.w.heap.size=C.cls C.w.heap.size from rfl,l] at this;omega
  grind [Ctx.add,bw,cr]) (by rintro b h rfl;exact h l) (by rintro b rfl;show _<(C.w.alloc _).heap.size;rw[cW];omega)
 have z:Ext C.st.length C _:=
  ⟨c.keeps.trans E,c.size,c.os,c.tape,c.output,c.frame,fun b h=>h.elim (c.qx b) (fun e=> .inr (.inr (by omega))),c.gn,fun i t=>(c.refs i t).trans (F i (c.refs i t).lt),c.cls,c.mc⟩
 refine Stepped.mk' k r (v:= .pointer (some ⟨C.w.heap.size,0,none⟩)) (x:= .jj T a) (.inl ?_) u z (dR rfl rfl ?_ u) (by simpa[Ctx.add,r.st] using y)
 ·simp[execOp,p,Instr.box,Gt,D];rfl
 ·simp only[M]
  refine⟨C.w.heap.size,0,rfl, .inr rfl,A,lW z.keeps k.lay a T _ _ 0 0 A (fun j _=>?_) q.2.2⟩;simp only[Nat.zero_add];exact iC _ _ _ _ _
theorem yt{C}(f:Inv C){s a}(i:db C s a){b T d e K}(k:C.P.underlying T=some (.map d e))
  (l:K (put {s with st:=s.st++[.map d e []]} b (.mp s.st.length))) {o} (j:o.op= .makeMap T none):Stepped C a b ((execOp a.eval o).run C.P C.w) K:=by
 have c:=bI C.w (.map #[] 0);have h:=fL f (o:= .map d e []) (g:=⟨C.w.heap.size,0,false⟩)  rfl (by simp) (gA _ _) c (by
  refine⟨fun h=>by have:=f.xs _ h;grind, #[],0,alloc_heap_new _ _,by simp[cw],⟨by simp,by simp,by simp,by simp⟩⟩)
 refine Stepped.mk' f i (v:= .map (some C.w.heap.size)) (x:= .mp C.st.length) (.inl ?_) h.1 h.2 (dR rfl rfl ?_ h.1) (by simpa[Ctx.add,i.st] using l)
 ·simp[execOp,j];rfl
 ·refine⟨by simp[Ctx.add],_,rfl,rfl,fun n p q m=>?_⟩
  rw[bw.2]
end Go.Dn
