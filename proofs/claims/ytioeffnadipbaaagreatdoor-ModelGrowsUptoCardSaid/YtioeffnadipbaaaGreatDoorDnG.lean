import Derived.Test.YtioeffnadipbaaaGreatDoorDnF
namespace Go.Dn
open Go
theorem gJ{C a v}(h:Rel C a v)(c:b6 a=false)(b:a≠ .cB):v.cells= #[v]/\ew v=false:=by
 have d:=h.1.resolve_right b
 grind [gO]
theorem aX{C u v}(h:Rel C (.lit u) v):v=u:=by
 have b:=gJ h rfl (by simp);have a:=h.2.2
 grind [M]
theorem lM{C i k off p v}(h:Rel C (.ptr i k p off) v):i<C.st.length/\pS C i k off v:=by
 have b:=gJ h rfl (by simp);have a:=h.2.2
 grind [M]
theorem fP{C i lo n v}(h:Rel C (.ak i lo n) v):i<C.st.length/\lv C i lo n v:=by
 have b:=gJ h rfl (by simp);have a:=h.2.2
 grind [M]
theorem tk{C i v}(h:Rel C (.mp i) v):i<C.st.length/\Mb C i v:=by
 have b:=gJ h rfl (by simp);have a:=h.2.2
 grind [M]
theorem RW{C T a v}(h:Rel C (.jt T a) v): ∃u,v= .iface T u:=by
 have b:=h.1.resolve_right (by simp);have d:=gO  (by rw[b];rfl);have c:=h.2.2
 grind [M]
theorem Bv{C i v}(h:Rel C (.cf i) v):i<C.st.length/\yF C i v:=by
 have b:=gJ h rfl (by simp);have a:=h.2.2
 grind [M]
theorem RX{C i k v}(h:Rel C (.lj i k) v):i<C.st.length/\vz C i k v:=by
 have b:=gJ h rfl (by simp);have a:=h.2.2
 grind [M]
theorem nt{C T l v}(h:Rel C (.ah T l) v):ck C.P l T/\∃p cap,v= .slice p l.length cap/\l.length<=cap/\
  (l≠[]->∃b off,p=some ⟨b,off,none⟩/\C.X b/\MR C l (C.P.cellsOf T) (cellAt C.w b) off):=by
 have f:=gJ h rfl (by simp);have a:=h.2.2;rw[f.1] at a;obtain⟨e,p,cap,c,d⟩:=a;simp at c;subst c
 exact⟨e,p,_,rfl,d⟩
theorem Bt{C T a v}(h:Rel C (.jj T a) v): ∃b off,v= .pointer (some ⟨b,off,none⟩)/\C.X b/\bB C.P a T/\M C a (cellAt C.w b) off:=by
 have f:=gJ h rfl (by simp);have c:=h.2.2;rw[f.1] at c;obtain⟨b,off,d,e⟩:=c;simp at d;subst d
 exact⟨b,_,rfl,e⟩
theorem Bu{C l v}(h:Rel C (.aH l) v): ∃a,v= .tuple a/\MT C l a.toList:=by
 have c:=gJ h rfl (by simp);have b:=h.2.2
 grind [M]
theorem vd{C f l v}(h:Rel C (.bm f l) v): ∃a,v= .func (.func f) #[] a/\MT C l a.toList:=by
 have c:=gJ h rfl (by simp);have b:=h.2.2
 grind [M]
theorem rW{C l v}(h:Rel C (.agg l) v): ∃a,v= .agg a/\a.size=eF l/\ML C l (fun j=>a[j]?) 0:=by
 have c:=h.1.resolve_right (by simp);have d:=h.2.1.resolve_right (by simp);have b:=h.2.2
 simp_all[ew,b6]
 grind [Value.cells,wid,M]
theorem dR{C a v}(e:b6 a=false)(b:ew v=false)(h:M C a (fun _=>some v) 0)(c:Inv C):Rel C a v:=by
 have f:wid a=1:=by cases a<;>simp_all[b6,wid]
 have g:=gO b;refine⟨by grind,by grind,j1 c (fun j d=>?_) h⟩
 grind
theorem Ci{C}: ∀l k z s o,k<l.length->MR C l z s o->M C (nth l k) s (o+k*z)
 |[],_,_,_,_,h,_=>by grind
 |a::l,0,z,s,o,_,h=>by grind [MR,nth]
 |a::l,k+1,z,s,o,b,h=>by
  have:=Ci l k z s _ (by grind) h.2
  grind [nth]
theorem oN{P}: ∀l k T,k<l.length->ck P l T->bB P (nth l k) T
 |[],_,_,h,_=>by grind
 |a::l,0,T,_,h=>by grind [ck,nth]
 |a::l,k+1,T,b,h=>by
  simpa[nth] using oN l k T (by grind) h.2
theorem xX: ∀l j,j<l.length->dJ l=true->cH (nth l j)=true
 |[],_,h,_=>by grind
 |a::l,0,_,h=>by
  simp[dJ] at h;exact h.1
 |a::l,j+1,b,h=>by
  simp[dJ] at h;simpa[nth] using xX l j (by grind) h.2
theorem zM: ∀p a,nP a p=true->cH a=true->cH (nX a p)=true
 |[],a,_,h=>by cases a<;>exact h
 |j::p, .agg l,b,h=>by
  simp[nP] at b;exact zM p _ b.2 (xX l j b.1 h)
 |_::_, .cB,b,_|_::_, .lit _,b,_|_::_, .ah _ _,b,_|_::_, .aH _,b,_|_::_, .ak _ _ _,b,_
 |_::_, .ptr _ _ _ _,b,_|_::_, .jj _ _,b,_|_::_, .mp _,b,_|_::_, .cf _,b,_|_::_, .lj _ _,b,_
 |_::_, .bm _ _,b,_|_::_, .jt _ _,b,_|_::_, .eO _ _ _ _,b,_=>by grind [nP]
theorem gM{C}: ∀{a s o},b6 a=false->cH a=true->M C a s o->∃v,s o=some v/\bg v=true
 | .cB,_,_,_,d,_=>by simp[cH] at d
 | .aH _,_,_,_,d,_=>by simp[cH] at d
 | .agg _,_,_,e,_,_=>by simp[b6] at e
 | .lit _,_,_,_,_,h=>by grind [M]
 | .ah _ _,_,_,_,_,h=>by simp only[M] at h;obtain⟨_,p,cap,c,_⟩:=h;exact⟨_,c,rfl⟩
 | .ak _ _ _,_,_,_,_,h=>by grind [M]
 | .ptr _ _ _ _,_,_,_,_,h=>by grind [M]
 | .jj _ _,_,_,_,_,h=>by obtain⟨b,off,c,_⟩:=h;exact⟨_,c,rfl⟩
 | .mp _,_,_,_,_,h=>by grind [M]
 | .cf _,_,_,_,_,h=>by grind [M]
 | .lj _ _,_,_,_,_,h=>by grind [M]
 | .bm _ _,_,_,_,_,h=>by simp only[M] at h;obtain⟨f,c,_⟩:=h;exact⟨_,c,rfl⟩
 | .jt _ _,_,_,_,_,h=>by obtain⟨u,c,_⟩:=h;exact⟨_,c,rfl⟩
 | .eO _ _ _ _,_,_,_,_,h=>by
  simp only[M] at h;rcases h with⟨_,h,_⟩|⟨b,_,_,h,_⟩
  ·exact⟨_,h,rfl⟩
  ·exact⟨_,h,rfl⟩
theorem y5{C}(l:Inv C){T b o a h p}(i:bB C.P a h)(e:M C a (cellAt C.w b) o)
  (f:nP a p=true) (c:dH C.P T=b6 (nX a p)) (k:wid (nX a p)=C.P.cellsOf T) (g:(C.P.underlying T).isSome=true):
  ∃v,(loadVar T ⟨b,o+ji a p,none⟩).run C.P C.w= .ok v C.w/\Rel C (nX a p) v:=by
 obtain⟨d,hd⟩:=Option.isSome_iff_exists.1 g;refine nI l hd (Vn p a _ o f e) c k fun j q=>?_
 have m:=pC p a f;obtain⟨v,r,n⟩:=EV a _ _ o i e (ji a p+j) (by omega)
 grind [cellAt]
theorem wU{C}(H:Inv C){T p x c vp}(h:nG C.P C.st T p=some (c,x))(hr:Rel C p vp):
  ∃v,(Instr.loadAt T vp).run C.P C.w= .ok v C.w/\Rel C x v:=by
 cases p<;>simp only[nG] at h<;>try (simp at h;done)
 ·rename_i i k f off
  obtain⟨hi,U⟩:=lM hr;have m:=H.obj i hi;split at h
  ·rename_i Tb a l
   split at h
   ·rename_i n
    simp only[ar5,beq_iff_eq] at n;obtain⟨⟨⟨⟨z,L⟩,J⟩,I⟩,B⟩:=n;simp only[ar7,as3] at h;obtain⟨_,rfl⟩:=h;obtain⟨rfl,rfl⟩:=U.2.1 Tb a l;rw[l] at m;obtain⟨_,K,cc,e,V,R,Z⟩:=m;obtain⟨d,hd⟩:=Option.isSome_iff_exists.1 B;have N:=Vn f a _ 0 z Z;have:=nI H hd (b:=(C.ι i).block) N J I (fun j hj=>by
     have hle:=pC f a z;cases O:b6 (nX a f) with
     |false=>
      have hw1:wid (nX a f)=1:=by cases r:nX a f<;>simp_all[b6,wid]
      obtain rfl:j=0:=by omega
      obtain⟨v,h6,h7⟩:=gM O (zM f a z K) N;exact⟨v,h6,fun _=>h7⟩
     |true=>
      have:(C.w.cell? ⟨(C.ι i).block,0+ji a f+j,none⟩)=cc[0+ji a f+j]? :=by simp[World.cell?,V]
      rw[this,Array.getElem?_eq_getElem (by omega)];exact⟨_,rfl,fun e=>by cases e⟩)
    simp only[Nat.zero_add,L] at this;simpa[Instr.loadAt,Instr.sureAddr] using this
   ·simp at h
  ·rename_i t E ls l
   split at h
   ·split at h
    ·rename_i n
     simp only[ar5,beq_iff_eq] at n;obtain⟨⟨⟨z,L⟩,rfl⟩,B⟩:=n;simp only[ar7,as3] at h;obtain⟨_,rfl⟩:=h;obtain⟨A,_,rfl⟩:=U.2.2.2.2.2 T E ls none l;rw[l] at m;obtain⟨_,hU,_,_,c,V,R,n⟩:=m;obtain⟨v,hv,s⟩:=n k A (by simp);obtain⟨d,hd⟩:=Option.isSome_iff_exists.1 B;have F:C.w.cell? ⟨(C.ι i).block,k,none⟩=some v:=by simp only[World.cell?,V];exact hv
     have q:bg v=true/\ew v=false:=by
      rcases s.2 with⟨rfl,_⟩|⟨b,cap,c,rfl,_⟩<;>exact⟨rfl,rfl⟩
     refine⟨v,?_, .inl q.2, .inl (by rw[gO q.2];rfl),?_⟩
     ·simp only[Instr.loadAt,Instr.sureAddr,Sem.run_bind,Sem.run_pure,Result.andThen_ok,loadVar,gQ hd,z,Bool.false_eq_true,if_false]
      exact lQ F
     ·rw[gO q.2]
      simp only[M];refine⟨hi,v,rfl,q.1,fun T' xs r=>by rw[l] at r;simp[gX] at r,fun T' E' ls' pd r=>?_⟩;rw[l] at r;cases r;exact⟨A,s⟩
    ·simp at h
   ·simp at h
  ·rename_i hno hno2
   split at h
   ·rename_i t xs o
    split at h
    ·rename_i n
     simp only[ar5,beq_iff_eq] at n;obtain⟨⟨⟨⟨z,L⟩,J⟩,I⟩,B⟩:=n;simp only[ar7,as3] at h;obtain⟨_,rfl⟩:=h;obtain⟨A,rfl⟩:=U.1 t xs o;have u:ck C.P xs t/\MR C xs (C.P.cellsOf t) (cellAt C.w (C.ι i).block) 0:=by
      cases r:ay C.st i<;>rw[r] at o m<;>simp[gX] at o
      ·obtain⟨rfl,rfl⟩:=o
       obtain⟨Q,⟨_,X⟩|⟨_,_,cc,_,_,_,_,W⟩⟩:=m
       ·subst X;simp at A
       ·exact⟨Q,W⟩
      ·obtain⟨rfl,rfl⟩:=o
       obtain⟨Q,⟨_,X⟩|⟨_,_,W⟩⟩:=m
       ·subst X;simp at A
       ·exact⟨Q,W⟩
     have N:=Ci xs k _ _ _ A u.2;have hT:=oN xs k t A u.1;obtain⟨Y,D⟩:=mf H.lay cj t _ _ _ hT N;have:=y5 H D Y z J I B
     simp only[Nat.zero_add,L] at this;simpa[Instr.loadAt,Instr.sureAddr] using this
    ·simp at h
   ·simp at h
 ·rename_i t a
  split at h
  ·rename_i n
   simp only[ar5,beq_iff_eq] at n;obtain⟨⟨J,I⟩,B⟩:=n;simp only[ar7,as3] at h;obtain⟨_,rfl⟩:=h;obtain⟨b,off,rfl,hX,ht,Z⟩:=Bt hr;obtain⟨Y,D⟩:=mf H.lay cj t _ _ _ ht Z;have g: ∀y:AV,nP y []=true/\ji y []=0/\nX y []=y:=fun y=>by cases y<;>simp[nP,ji,nX]
   have:=y5 H (p:=[]) D Y (g _).1 (by rw[(g _).2.2];exact J) (by rw[(g _).2.2];exact I) B
   rw[(g _).2.1,(g _).2.2,Nat.add_zero] at this;simpa[Instr.loadAt,Instr.sureAddr] using this
  ·simp at h
end Go.Dn
