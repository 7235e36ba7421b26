import Derived.Test.YtioeffnadipbaaaGreatDoorDnF
namespace Go.Dn
open Go
theorem gS{C a v}(h:Rel C a v)(c:bX a=false)(b:a≠ .cC):v.cells= #[v]/\eH v=false:=by
 have d:=h.1.resolve_right b
 grind [gY]
theorem aZ{C u v}(h:Rel C (.lit u) v):v=u:=by
 have b:=gS h rfl (by simp);have a:=h.2.2
 grind [M]
theorem lO{C i k off p v}(h:Rel C (.ptr i k p off) v):i<C.st.length/\qj C i k off v:=by
 have b:=gS h rfl (by simp);have a:=h.2.2
 grind [M]
theorem fN{C i lo n v}(h:Rel C (.an i lo n) v):i<C.st.length/\lA C i lo n v:=by
 have b:=gS h rfl (by simp);have a:=h.2.2
 grind [M]
theorem tI{C i v}(h:Rel C (.mp i) v):i<C.st.length/\Mc C i v:=by
 have b:=gS h rfl (by simp);have a:=h.2.2
 grind [M]
theorem Q8{C T a v}(h:Rel C (.jx T a) v): ∃u,v= .iface T u:=by
 have b:=h.1.resolve_right (by simp);have d:=gY  (by rw[b];rfl);have c:=h.2.2
 grind [M]
theorem Af{C i v}(h:Rel C (.cf i) v):i<C.st.length/\zX C i v:=by
 have b:=gS h rfl (by simp);have a:=h.2.2
 grind [M]
theorem Ri{C i k v}(h:Rel C (.lv i k) v):i<C.st.length/\x0 C i k v:=by
 have b:=gS h rfl (by simp);have a:=h.2.2
 grind [M]
theorem nj{C T l v}(h:Rel C (.ah T l) v):ck C.P l T/\∃p cap,v= .slice p l.length cap/\l.length<=cap/\
  (l≠[]->∃b off,p=some ⟨b,off,none⟩/\C.X b/\MR C l (C.P.cellsOf T) (cellAt C.w b) off):=by
 have f:=gS h rfl (by simp);have a:=h.2.2;rw[f.1] at a;obtain⟨e,p,cap,c,d⟩:=a;simp at c;subst c
 exact⟨e,p,_,rfl,d⟩
theorem BB{C T a v}(h:Rel C (.jh T a) v): ∃b off,v= .pointer (some ⟨b,off,none⟩)/\C.X b/\bB C.P a T/\M C a (cellAt C.w b) off:=by
 have f:=gS h rfl (by simp);have c:=h.2.2;rw[f.1] at c;obtain⟨b,off,d,e⟩:=c;simp at d;subst d
 exact⟨b,_,rfl,e⟩
theorem AI{C l v}(h:Rel C (.aJ l) v): ∃a,v= .tuple a/\MT C l a.toList:=by
 have c:=gS h rfl (by simp);have b:=h.2.2
 grind [M]
theorem uY{C f l v}(h:Rel C (.bn f l) v): ∃a,v= .func (.func f) #[] a/\MT C l a.toList:=by
 have c:=gS h rfl (by simp);have b:=h.2.2
 grind [M]
theorem sj{C l v}(h:Rel C (.agg l) v): ∃a,v= .agg a/\a.size=eC l/\ML C l (fun j=>a[j]?) 0:=by
 have c:=h.1.resolve_right (by simp);have d:=h.2.1.resolve_right (by simp);have b:=h.2.2
 simp_all[eH,bX]
 grind [Value.cells,wid,M]
theorem dV{C a v}(e:bX a=false)(b:eH v=false)(h:M C a (fun _=>some v) 0)(c:Inv C):Rel C a v:=by
 have f:wid a=1:=by cases a<;>simp_all[bX,wid]
 have g:=gY b;refine⟨by grind,by grind,kg c (fun j d=>?_) h⟩
 grind
theorem DJ{C}: ∀l k z s o,k<l.length->MR C l z s o->M C (nth l k) s (o+k*z)
 |[],_,_,_,_,h,_=>by grind
 |a::l,0,z,s,o,_,h=>by grind [MR,nth]
 |a::l,k+1,z,s,o,b,h=>by
  have:=DJ l k z s _ (by grind) h.2
  grind [nth]
theorem om{P}: ∀l k T,k<l.length->ck P l T->bB P (nth l k) T
 |[],_,_,h,_=>by grind
 |a::l,0,T,_,h=>by grind [ck,nth]
 |a::l,k+1,T,b,h=>by
  simpa[nth] using om l k T (by grind) h.2
theorem xI: ∀l j,j<l.length->dU l=true->cR (nth l j)=true
 |[],_,h,_=>by grind
 |a::l,0,_,h=>by
  simp[dU] at h;exact h.1
 |a::l,j+1,b,h=>by
  simp[dU] at h;simpa[nth] using xI l j (by grind) h.2
theorem z8: ∀p a,nO a p=true->cR a=true->cR (oF a p)=true
 |[],a,_,h=>by cases a<;>exact h
 |j::p, .agg l,b,h=>by
  simp[nO] at b;exact z8 p _ b.2 (xI l j b.1 h)
 |_::_, .cC,b,_|_::_, .lit _,b,_|_::_, .ah _ _,b,_|_::_, .aJ _,b,_|_::_, .an _ _ _,b,_
 |_::_, .ptr _ _ _ _,b,_|_::_, .jh _ _,b,_|_::_, .mp _,b,_|_::_, .cf _,b,_|_::_, .lv _ _,b,_
 |_::_, .bn _ _,b,_|_::_, .jx _ _,b,_|_::_, .eQ _ _ _ _,b,_=>by grind [nO]
theorem gX{C}: ∀{a s o},bX a=false->cR a=true->M C a s o->∃v,s o=some v/\bh v=true
 | .cC,_,_,_,d,_=>by simp[cR] at d
 | .aJ _,_,_,_,d,_=>by simp[cR] at d
 | .agg _,_,_,e,_,_=>by simp[bX] at e
 | .lit _,_,_,_,_,h=>by grind [M]
 | .ah _ _,_,_,_,_,h=>by simp only[M] at h;obtain⟨_,p,cap,c,_⟩:=h;exact⟨_,c,rfl⟩
 | .an _ _ _,_,_,_,_,h=>by grind [M]
 | .ptr _ _ _ _,_,_,_,_,h=>by grind [M]
 | .jh _ _,_,_,_,_,h=>by obtain⟨b,off,c,_⟩:=h;exact⟨_,c,rfl⟩
 | .mp _,_,_,_,_,h=>by grind [M]
 | .cf _,_,_,_,_,h=>by grind [M]
 | .lv _ _,_,_,_,_,h=>by grind [M]
 | .bn _ _,_,_,_,_,h=>by simp only[M] at h;obtain⟨f,c,_⟩:=h;exact⟨_,c,rfl⟩
 | .jx _ _,_,_,_,_,h=>by obtain⟨u,c,_⟩:=h;exact⟨_,c,rfl⟩
 | .eQ _ _ _ _,_,_,_,_,h=>by
  simp only[M] at h;rcases h with⟨_,h,_⟩|⟨b,_,_,h,_⟩
  ·exact⟨_,h,rfl⟩
  ·exact⟨_,h,rfl⟩
theorem zd{C}(l:Inv C){T b o a h p}(i:bB C.P a h)(e:M C a (cellAt C.w b) o)
  (f:nO a p=true) (c:dH C.P T=bX (oF a p)) (k:wid (oF a p)=C.P.cellsOf T) (g:(C.P.underlying T).isSome=true):
  ∃v,(loadVar T ⟨b,o+js a p,none⟩).run C.P C.w= .ok v C.w/\Rel C (oF a p) v:=by
 obtain⟨d,hd⟩:=Option.isSome_iff_exists.1 g;refine nH l hd (VN p a _ o f e) c k fun j q=>?_
 have m:=pn p a f;obtain⟨v,r,n⟩:=E1 a _ _ o i e (js a p+j) (by omega)
 grind [cellAt]
theorem vR{C}(H:Inv C){T p x c vp}(h:nG C.P C.st T p=some (c,x))(hr:Rel C p vp):
  ∃v,(Instr.loadAt T vp).run C.P C.w= .ok v C.w/\Rel C x v:=by
 cases p<;>simp only[nG] at h<;>try (simp at h;done)
 ·rename_i i k f off
  obtain⟨hi,U⟩:=lO hr;have m:=H.obj i hi;split at h
  ·rename_i Tb a l
   split at h
   ·rename_i n
    simp only[ao0,beq_iff_eq] at n;obtain⟨⟨⟨⟨z,L⟩,J⟩,I⟩,B⟩:=n;simp only[ao2,ao8] at h;obtain⟨_,rfl⟩:=h;obtain⟨rfl,rfl⟩:=U.2.1 Tb a l;rw[l] at m;obtain⟨_,K,cc,e,V,R,Z⟩:=m;obtain⟨d,hd⟩:=Option.isSome_iff_exists.1 B;have N:=VN f a _ 0 z Z;have:=nH H hd (b:=(C.ι i).block) N J I (fun j hj=>by
     have hle:=pn f a z;cases O:bX (oF a f) with
     |false=>
      have hw1:wid (oF a f)=1:=by cases r:oF a f<;>simp_all[bX,wid]
      obtain rfl:j=0:=by omega
      obtain⟨v,h6,h7⟩:=gX O (z8 f a z K) N;exact⟨v,h6,fun _=>h7⟩
     |true=>
      have:(C.w.cell? ⟨(C.ι i).block,0+js a f+j,none⟩)=cc[0+js a f+j]? :=by simp[World.cell?,V]
      rw[this,Array.getElem?_eq_getElem (by omega)];exact⟨_,rfl,fun e=>by cases e⟩)
    simp only[Nat.zero_add,L] at this;simpa[Instr.loadAt,Instr.sureAddr] using this
   ·simp at h
  ·rename_i t E ls l
   split at h
   ·split at h
    ·rename_i n
     simp only[ao0,beq_iff_eq] at n;obtain⟨⟨⟨z,L⟩,rfl⟩,B⟩:=n;simp only[ao2,ao8] at h;obtain⟨_,rfl⟩:=h;obtain⟨A,_,rfl⟩:=U.2.2.2.2.2 T E ls none l;rw[l] at m;obtain⟨_,hU,_,_,c,V,R,n⟩:=m;obtain⟨v,hv,s⟩:=n k A (by simp);obtain⟨d,hd⟩:=Option.isSome_iff_exists.1 B;have F:C.w.cell? ⟨(C.ι i).block,k,none⟩=some v:=by simp only[World.cell?,V];exact hv
     have q:bh v=true/\eH v=false:=by
      rcases s.2 with⟨rfl,_⟩|⟨b,cap,c,rfl,_⟩<;>exact⟨rfl,rfl⟩
     refine⟨v,?_, .inl q.2, .inl (by rw[gY q.2];rfl),?_⟩
     ·simp only[Instr.loadAt,Instr.sureAddr,Sem.run_bind,Sem.run_pure,Result.andThen_ok,loadVar,gV hd,z,Bool.false_eq_true,if_false]
      exact lH F
     ·rw[gY q.2]
      simp only[M];refine⟨hi,v,rfl,q.1,fun T' xs r=>by rw[l] at r;simp[hR] at r,fun T' E' ls' pd r=>?_⟩;rw[l] at r;cases r;exact⟨A,s⟩
    ·simp at h
   ·simp at h
  ·rename_i hno hno2
   split at h
   ·rename_i t xs o
    split at h
    ·rename_i n
     simp only[ao0,beq_iff_eq] at n;obtain⟨⟨⟨⟨z,L⟩,J⟩,I⟩,B⟩:=n;simp only[ao2,ao8] at h;obtain⟨_,rfl⟩:=h;obtain⟨A,rfl⟩:=U.1 t xs o;have u:ck C.P xs t/\MR C xs (C.P.cellsOf t) (cellAt C.w (C.ι i).block) 0:=by
      cases r:ay C.st i<;>rw[r] at o m<;>simp[hR] at o
      ·obtain⟨rfl,rfl⟩:=o
       obtain⟨Q,⟨_,X⟩|⟨_,_,cc,_,_,_,_,W⟩⟩:=m
       ·subst X;simp at A
       ·exact⟨Q,W⟩
      ·obtain⟨rfl,rfl⟩:=o
       obtain⟨Q,⟨_,X⟩|⟨_,_,W⟩⟩:=m
       ·subst X;simp at A
       ·exact⟨Q,W⟩
     have N:=DJ xs k _ _ _ A u.2;have hT:=om xs k t A u.1;obtain⟨Y,D⟩:=mF H.lay cj t _ _ _ hT N;have:=zd H D Y z J I B
     simp only[Nat.zero_add,L] at this;simpa[Instr.loadAt,Instr.sureAddr] using this
    ·simp at h
   ·simp at h
 ·rename_i t a
  split at h
  ·rename_i n
   simp only[ao0,beq_iff_eq] at n;obtain⟨⟨J,I⟩,B⟩:=n;simp only[ao2,ao8] at h;obtain⟨_,rfl⟩:=h;obtain⟨b,off,rfl,hX,ht,Z⟩:=BB hr;obtain⟨Y,D⟩:=mF H.lay cj t _ _ _ ht Z;have g: ∀y:AV,nO y []=true/\js y []=0/\oF y []=y:=fun y=>by cases y<;>simp[nO,js,oF]
   have:=zd H (p:=[]) D Y (g _).1 (by rw[(g _).2.2];exact J) (by rw[(g _).2.2];exact I) B
   rw[(g _).2.1,(g _).2.2,Nat.add_zero] at this;simpa[Instr.loadAt,Instr.sureAddr] using this
  ·simp at h
end Go.Dn
