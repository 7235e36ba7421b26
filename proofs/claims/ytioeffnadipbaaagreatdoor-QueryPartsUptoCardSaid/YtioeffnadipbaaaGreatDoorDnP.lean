import Derived.Test.YtioeffnadipbaaaGreatDoorDnO
namespace Go.Dn
open Go
theorem kj{P w T d}(j:P.underlying T=some d){b o a e v}(i:w.heap[b]? =some (.cells a e (0,0)))
  (f:v.cells.size=P.cellsOf T) (h:o+v.cells.size<=a.size) (g: ∀u,u∈v.cells.toList->u.oneCell'=true):
  (Instr.storeAt T (.pointer (some ⟨b,o,none⟩)) v).run P w= .ok () (w.setRow b (a.toList.take o++v.cells.toList++a.toList.drop (o+v.cells.size)).toArray):=by
 have c:=run_storeCells_at P b o e _ 0 _ w i (by grind) g
 simp_all[Instr.storeAt,Instr.sureAddr,storeVar,run_sizeOf]
theorem setRow_os w g a:dT w (w.setRow g a):=⟨rfl,rfl,rfl⟩
theorem nq(w:World) g a b e(c:w.heap[g]? =some (.cells a e (0,0))) j:cellAt (w.setRow g b) g j=b[j]? :=by
 have:=setRow_heap w g _ b e _ c
 grind [cellAt,World.cell?]
theorem lL{w g a e b}(c:w.heap[g]? =some (.cells a e b)) j:cellAt w g j=a[j]? :=by
 grind [cellAt,World.cell?]
theorem rI{C}(b:Inv C){x v}(a:Rel C x v){s o}(d: ∀j,j<v.cells.size->s (o+j)=v.cells[j]?)(c:x≠ .cK):M C x s o:=
 j5 b (fun j e=>by rw[Nat.zero_add];exact d j (by rw[a.2.1.resolve_right c];omega)) a.2.2
theorem kz{C i}(f:i<C.st.length){T a}(h:au C.st i= .box T a){o w} d e(q:o= .box d e)(j:d=T):bW C (C.dR i o w) i i:=by
 subst q;subst j
 have g:au (C.dR i (.box d e) w).st i= .box d e:=bn _ _ _ f;refine⟨by simp only[Ctx.dR,a9];exact f,fun T xs c=>?_,fun T b c=>?_,fun K V u c=>?_,fun r c=>?_,fun m n k c=>?_,fun t c=>?_,fun s p c=>?_,fun K V k v l c=>?_,fun T E y x c=>?_⟩
 ·grind [ib]
 ·rw[g] at c;cases c;exact⟨a,h,rfl⟩
 ·grind
 ·grind
 ·grind
 ·grind
 ·grind
 ·grind
 grind
theorem sE{C i}(d:i<C.st.length){T xs c}(h:au C.st i= .row T xs){w}(e:xs.length<=c.length):bW C (C.dR i (.row T c) w) i i:=by
 have g:au (C.dR i (.row T c) w).st i= .row T c:=bn _ _ _ d;refine⟨by grind [Ctx.dR,a9],fun T xs a=>?_,fun T b a=>?_,fun K V o a=>?_,fun r a=>?_,fun m n f a=>?_,fun t a=>?_,fun s p a=>?_,fun K V f l j a=>?_,fun T E q k a=>?_⟩
 ·rw[g] at a;obtain⟨rfl,rfl⟩:=a
  exact⟨_,by rw[h];rfl,rfl,e⟩
 ·grind
 ·grind
 ·grind
 ·grind
 ·grind
 ·grind
 ·grind
 grind
theorem Ew{C:Ctx}(hI:Inv C){x:AV}{z:Nat}(hx1:wid x=z): ∀(l:List AV) (k:Nat) (s s':Src) (o:Nat),(∀a,a∈l->wid a=z)->k<l.length->MR C l z s o->M C x s' (o+k*z)->
  (∀j,j<l.length*z-> ¬ (k*z<=j/\j<k*z+z)->s' (o+j)=s (o+j))->MR C (bQ l k x) z s' o
 |[],_,_,_,_,_,h,_,_,_=>by simp at h
 | a::l,0,s,s',o,hw,_,h,hx,hs=>by
  simp only[MR] at h;simp only[bQ,MR];refine⟨by simpa using hx,?_⟩;exact go l s s' (o+z) (fun b hb=>hw b (by simp[hb])) h.2 (fun j hj=>by
   have:=hs (z+j) (by simp only[List.length_cons,Nat.add_mul];omega) (by omega)
   rw[show o+z+j=o+(z+j) by omega,this])
 |a::l,k+1,s,s',o,hw,hk,h,hx,hs=>by
  simp only[MR] at h;simp only[bQ,MR];have hwa:=hw a (by simp);refine⟨j5 hI (fun j hj=>hs j (by simp only[List.length_cons,Nat.add_mul];omega) (by rw[Nat.add_mul];omega)) h.1,?_⟩;refine Ew hI hx1 l k s s' (o+z) (fun b hb=>hw b (by simp[hb])) (by simpa using hk) h.2 (by rwa [show o+z+k*z=o+(k+1)*z by rw[Nat.add_mul];omega]) (fun j hj hnj=>?_);have:=hs (z+j) (by simp only[List.length_cons,Nat.add_mul];omega) (by rw[Nat.add_mul];omega)
  rw[show o+z+j=o+(z+j) by omega,this]
where
 go: ∀(l:List AV) (s s':Src) (o:Nat),(∀a,a∈l->wid a=z)->MR C l z s o->(∀j,j<l.length*z->s' (o+j)=s (o+j))->MR C l z s' o
  |[],_,_,_,_,_,_=>by simp[MR]
  |a::l,s,s',o,hw,h,hs=>by
   simp only[MR] at h⊢;have hwa:=hw a (by simp);refine⟨j5 hI (fun j hj=>hs j (by simp only[List.length_cons,Nat.add_mul];omega)) h.1,go l s s' (o+z) (fun b hb=>hw b (by simp[hb])) h.2 (fun j hj=>?_)⟩;have:=hs (z+j) (by simp only[List.length_cons,Nat.add_mul];omega)
   rw[show o+z+j=o+(z+j) by omega,this]
theorem tL{P}(d:eU P){T}: ∀l,b8 P l T->∀a,a∈l->wid a=P.cellsOf T
 |[],_,a,c=>by grind
 |b::l,h,a,c=>by
  rcases List.mem_cons.1 c with rfl|c
  ·exact dw d _ _ h.1
  ·exact tL d l h.2 a c
theorem nL{P T}: ∀l k x,b8 P l T->bu P x T->b8 P (bQ l k x) T
 |[],_,_,_,_=>by simp[bQ,b8]
 |a::l,0,x,h,b=>by grind [b8,bQ]
 |a::l,k+1,x,h,b=>by exact⟨h.1,nL l k x h.2 b⟩
theorem xK{C}(f:Inv C){i j o w}(k:i<C.st.length)(a:cv (C.ι i) (au C.st i)=true)(c: ∀b,b≠(C.ι i).block->w.heap[b]? =C.w.heap[b]?)(g:j<C.st.length)(d:i≠j):bW C (C.dR i o w) j j:=
 dW f g (by grind [Ctx.dR,a9]) (bw _ _ _ _ d) rfl fun h b l=>⟨rfl,rfl,c b fun e=>f.u0 j i g k (Ne.symm d) h a (by rw[←l,e,f.eZ i k a])⟩
theorem Kr{C}(p:Inv C){i}(z:i<C.st.length){n T a x c off}(g:au C.st i= .box n a){v J}(D:Rel C x v)(V:ql C i 0 off J)
  (B:oi a c=true) (X:jm a c=off) (h3:wid x=C.P.cellsOf T) (h4:wid (og a c)=C.P.cellsOf T) (E:cR x=true) {d} (O:C.P.underlying T=some d):
  ∃H,(Instr.storeAt T J v).run C.P C.w= .ok () H/\Inv (C.dR i (.box n (gD a c x)) H)/\Ext C.st.length C (C.dR i (.box n (gD a c x)) H):=by
 have t:=p.obj i z;rw[g] at t;obtain⟨L,Y,f,e,A,⟨g4,U,F⟩,W⟩:=t;obtain⟨_,rfl⟩:=V.2.1 n a g;have m:x≠ .cK:=by intro e;subst e;simp[cR] at E
 have N:=D.2.1.resolve_right m;have Q:=pU c a B;have u:wid x=wid (og a c):=by omega
 have r:=kj O A (v:=v) (o:=off) (by omega) (by omega) (qM E D);refine⟨_,r,?_⟩;have s:=spliced f off v.cells.toList (by simp;omega);simp only[Array.length_toList] at s;have k: ∀j,cellAt (C.w.setRow (C.ι i).block (f.toList.take off++v.cells.toList++f.toList.drop (off+v.cells.size)).toArray) (C.ι i).block j=if off<=j/\j<off+v.cells.size then v.cells[j - off]? else cellAt C.w (C.ι i).block j:=fun j=>by
  rw[nq _ _ f _ e A,s,lL A];simp
 have R:M C (gD a c x) (cellAt (C.w.setRow (C.ι i).block (f.toList.take off++v.cells.toList++f.toList.drop (off+v.cells.size)).toArray) (C.ι i).block) 0:=by
  refine Ah p c a (cellAt C.w (C.ι i).block) _ 0 B u W ?_ (fun j hj m=>?_)
  ·refine rI p D (fun j hj=>?_) m
   rw[k,X,Nat.zero_add,if_pos (by omega)];congr 1;omega
  ·rw[k,if_neg (by omega)]
 have l:cv (C.ι i) (au C.st i)=true:=by rw[g];rfl
 have K:bW C (C.dR i (.box n (gD a c x)) (C.w.setRow (C.ι i).block (f.toList.take off++v.cells.toList++f.toList.drop (off+v.cells.size)).toArray)) i i:=kz z g n _ rfl rfl;refine hJ p z l (by simp) (setRow_os _ _ _) (fun b y=>setRow_other _ _ _ _ y) K ?_;have Z:bK C (C.dR i (.box n (gD a c x)) (C.w.setRow (C.ι i).block (f.toList.take off++v.cells.toList++f.toList.drop (off+v.cells.size)).toArray)):=
  ⟨rfl,fun _ h=>h,fun b y=>setRow_other _ _ _ _ (fun e=>L (e▸y))⟩
 refine⟨L,ru c a x B Y E,_,e,setRow_heap _ _ f _ e (0,0) A,?_,?_⟩
 ·rw[mY c a x B u]
  simp only[List.size_toArray,ao6,List.length_take,List.length_drop,Array.length_toList];exact⟨by omega,by omega,F⟩
 ·refine M.gr Z p.lay (fun j _ I=>?_) (fun _ _=>rfl) R
  by_cases q:i=j
  ·subst q;exact K
  ·exact xK p z l (fun b y=>setRow_other _ _ _ _ y) I q
theorem Ks{C}(s:Inv C){i k}(N:i<C.st.length){f T xs x c off}(r:au C.st i= .row f xs){v vp}(R:Rel C x v)(hp:ql C i k off vp)
  (J:oi (expand C.P cd f (nth xs k)) c=true) (h2:jm (expand C.P cd f (nth xs k)) c=off) (h3:wid x=C.P.cellsOf T) (h4:wid (og (expand C.P cd f (nth xs k)) c)=C.P.cellsOf T)
  (h5:cR x=true) (Z:wa C.P (gD (expand C.P cd f (nth xs k)) c x) f=true) {d} (h6:C.P.underlying T=some d):
  ∃m,(Instr.storeAt T vp v).run C.P C.w= .ok () m/\Inv (C.dR i (.row f (bQ xs k (gD (expand C.P cd f (nth xs k)) c x))) m)/\
   Ext C.st.length C (C.dR i (.row f (bQ xs k (gD (expand C.P cd f (nth xs k)) c x))) m):=by
 have B:=s.obj i N;rw[r] at B;obtain⟨L,rfl⟩:=hp.1 f xs (by rw[r];rfl);obtain⟨I,⟨_,g9⟩|⟨g2,g1,g,K,g4,g5,O,Q⟩⟩:=B
 ·subst g9;simp at L
 obtain⟨z,t⟩: ∃z,z=C.P.cellsOf f:=⟨_,rfl⟩
 obtain⟨a,ha⟩: ∃a,a=expand C.P cd f (nth xs k):=⟨_,rfl⟩
 rw[←t] at O Q⊢;rw[←ha] at J h2 h4 Z⊢;have p:x≠ .cK:=by intro e;subst e;simp[cR] at h5
 have hsz:=R.2.1.resolve_right p;have hle:=pU c a J;have A:wid x=wid (og a c):=by omega
 have U:=o5 xs k f L I;have V:=Cd xs k z _ 0 L Q;obtain⟨hE,u⟩:=mw s.lay cd f _ _ _ U V;rw[←ha] at hE u;have X:wid a=z:=by rw[t];exact dw s.lay _ _ u
 have hkz:k*z+z<=xs.length*z:=by
  have:=Nat.mul_le_mul_right z (show k+1<=xs.length by omega)
  rw[Nat.add_mul] at this;omega
 have hcz:xs.length*z<=g.size:=by rw[←O];exact Nat.mul_le_mul_right _ g4
 have y:=kj h6 K (v:=v) (o:=k*z+off) (by omega) (by omega) (qM h5 R);refine⟨_,y,?_⟩;have E:=spliced g (k*z+off) v.cells.toList (by simp;omega);simp only[Array.length_toList] at E;have n: ∀j,cellAt (C.w.setRow (C.ι i).block (g.toList.take (k*z+off)++v.cells.toList++g.toList.drop (k*z+off+v.cells.size)).toArray) (C.ι i).block j=if k*z+off<=j/\j<k*z+off+v.cells.size then v.cells[j - (k*z+off)]? else cellAt C.w (C.ι i).block j:=fun j=>by
  rw[nq _ _ g _ f K,E,lL K];simp
 generalize q:C.w.setRow (C.ι i).block (g.toList.take (k*z+off)++v.cells.toList++g.toList.drop (k*z+off+v.cells.size)).toArray=m at*
 have hM:M C (gD a c x) (cellAt m (C.ι i).block) (k*z):=by
  refine Ah s c a (cellAt C.w (C.ι i).block) _ (k*z) J A (by simpa using hE) ?_ (fun j hj p=>?_)
  ·refine rI s R (fun j hj=>?_) p
   rw[n,h2,if_pos (by omega)];congr 1;omega
  ·rw[n,if_neg (by omega)]
 have D:=iq _ _ _ _ Z hM;have W:MR C (bQ xs k (gD a c x)) z (cellAt m (C.ι i).block) 0:=
  Ew s (by rw[mY c a x J A,X]) xs k _ _ 0 (fun b F=>by rw[t];exact tL s.lay xs I b F) L Q (by simpa using hM) (fun j hj p=>by rw[n,if_neg (by omega)])
 have H:cv (C.ι i) (au C.st i)=true:=by rw[r];simp[cv,g2]
 have hr:bW C (C.dR i (.row f (bQ xs k (gD a c x))) m) i i:=sE N r (by rw[fY];exact Nat.le_refl _);have l: ∀b,b≠(C.ι i).block->m.heap[b]? =C.w.heap[b]? :=fun b F=>by rw[←q];exact setRow_other _ _ _ _ F
 refine hJ s N H (by rw[←q];simp) (by rw[←q];exact setRow_os _ _ _) l hr ?_;have Y:bK C (C.dR i (.row f (bQ xs k (gD a c x))) m):=⟨rfl,fun _ h=>h,fun b F=>l b (fun e=>g1 (e▸F))⟩
 refine⟨nL xs k _ I D, .inr ⟨g2,g1,(g.toList.take (k*z+off)++v.cells.toList++g.toList.drop (k*z+off+v.cells.size)).toArray,?_,by rw[fY];exact g4,g5,?_,?_⟩⟩
 ·rw[show(C.dR i (.row f (bQ xs k (gD a c x))) m).w=m from rfl,←q]
  exact setRow_heap _ _ g _ f (0,0) K
 ·show(C.ι i).cap*C.P.cellsOf f=_
  rw[←t,O];simp only[List.size_toArray,ao6,List.length_take,List.length_drop,Array.length_toList];omega
 ·have:=gg Y s.lay (bQ xs k (gD a c x)) f (cellAt m (C.ι i).block) (cellAt m (C.ι i).block) 0 0 (nL xs k _ I D) (fun _ _=>rfl) (by rw[←t];exact W)
  exact this
end Go.Dn
