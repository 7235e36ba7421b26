import Derived.Test.YtioeffnadipbaaaGreatDoorDnF
namespace Go.Dn
open Go
theorem ir{C a v}(h:Rel C a v)(c:cg a=false)(b:a≠ .cP):v.cells= #[v]/\e6 v=false:=by
 have d:=h.1.resolve_right b
 grind [iy]
theorem a0{C u v}(h:Rel C (.lit u) v):v=u:=by
 have b:=ir h rfl (by simp);have a:=h.2.2
 grind [M]
theorem mw{C i k off p v}(h:Rel C (.ptr i k p off) v):i<C.st.length/\qS C i k off v:=by
 have b:=ir h rfl (by simp);have a:=h.2.2
 grind [M]
theorem gw{C i lo n v}(h:Rel C (.ak i lo n) v):i<C.st.length/\l7 C i lo n v:=by
 have b:=ir h rfl (by simp);have a:=h.2.2
 grind [M]
theorem uG{C i v}(h:Rel C (.mp i) v):i<C.st.length/\NX C i v:=by
 have b:=ir h rfl (by simp);have a:=h.2.2
 grind [M]
theorem Ue{C T a v}(h:Rel C (.jT T a) v): ∃u,v= .iface T u:=by
 have b:=h.1.resolve_right (by simp);have d:=iy  (by rw[b];rfl);have c:=h.2.2
 grind [M]
theorem CX{C i v}(h:Rel C (.cn i) v):i<C.st.length/\zY C i v:=by
 have b:=ir h rfl (by simp);have a:=h.2.2
 grind [M]
theorem Uf{C i k v}(h:Rel C (.lZ i k) v):i<C.st.length/\w6 C i k v:=by
 have b:=ir h rfl (by simp);have a:=h.2.2
 grind [M]
theorem ou{C T l v}(h:Rel C (.ah T l) v):cu C.P l T/\∃p cap,v= .slice p l.length cap/\l.length<=cap/\
  (l≠[]->∃b off,p=some ⟨b,off,none⟩/\C.X b/\MR C l (C.P.cellsOf T) (cellAt C.w b) off):=by
 have f:=ir h rfl (by simp);have a:=h.2.2;rw[f.1] at a;obtain⟨e,p,cap,c,d⟩:=a;simp at c;subst c
 exact⟨e,p,_,rfl,d⟩
theorem CV{C T a v}(h:Rel C (.jK T a) v): ∃b off,v= .pointer (some ⟨b,off,none⟩)/\C.X b/\bE C.P a T/\M C a (cellAt C.w b) off:=by
 have f:=ir h rfl (by simp);have c:=h.2.2;rw[f.1] at c;obtain⟨b,off,d,e⟩:=c;simp at d;subst d
 exact⟨b,_,rfl,e⟩
theorem CW{C l v}(h:Rel C (.aH l) v): ∃a,v= .tuple a/\MT C l a.toList:=by
 have c:=ir h rfl (by simp);have b:=h.2.2
 grind [M]
theorem wN{C f l v}(h:Rel C (.bo f l) v): ∃a,v= .func (.func f) #[] a/\MT C l a.toList:=by
 have c:=ir h rfl (by simp);have b:=h.2.2
 grind [M]
theorem te{C l v}(h:Rel C (.agg l) v): ∃a,v= .agg a/\a.size=fc l/\ML C l (fun j=>a[j]?) 0:=by
 have c:=h.1.resolve_right (by simp);have d:=h.2.1.resolve_right (by simp);have b:=h.2.2
 simp_all[e6,cg]
 grind [Value.cells,wid,M]
theorem eu{C a v}(e:cg a=false)(b:e6 v=false)(h:M C a (fun _=>some v) 0)(c:Inv C):Rel C a v:=by
 have f:wid a=1:=by cases a<;>simp_all[cg,wid]
 have g:=iy b;refine⟨by grind,by grind,kB c (fun j d=>?_) h⟩
 grind
theorem DW{C}: ∀l k z s o,k<l.length->MR C l z s o->M C (nth l k) s (o+k*z)
 |[],_,_,_,_,h,_=>by grind
 |a::l,0,z,s,o,_,h=>by grind [MR,nth]
 |a::l,k+1,z,s,o,b,h=>by
  have:=DW l k z s _ (by grind) h.2
  grind [nth]
theorem pK{P}: ∀l k T,k<l.length->cu P l T->bE P (nth l k) T
 |[],_,_,h,_=>by grind
 |a::l,0,T,_,h=>by grind [cu,nth]
 |a::l,k+1,T,b,h=>by
  simpa[nth] using pK l k T (by grind) h.2
theorem ze: ∀l j,j<l.length->eh l=true->cX (nth l j)=true
 |[],_,h,_=>by grind
 |a::l,0,_,h=>by
  simp[eh] at h;exact h.1
 |a::l,j+1,b,h=>by
  simp[eh] at h;simpa[nth] using ze l j (by grind) h.2
theorem Bf: ∀p a,oU a p=true->cX a=true->cX (o5 a p)=true
 |[],a,_,h=>by cases a<;>exact h
 |j::p, .agg l,b,h=>by
  simp[oU] at b;exact Bf p _ b.2 (ze l j b.1 h)
 |_::_, .cP,b,_|_::_, .lit _,b,_|_::_, .ah _ _,b,_|_::_, .aH _,b,_|_::_, .ak _ _ _,b,_
 |_::_, .ptr _ _ _ _,b,_|_::_, .jK _ _,b,_|_::_, .mp _,b,_|_::_, .cn _,b,_|_::_, .lZ _ _,b,_
 |_::_, .bo _ _,b,_|_::_, .jT _ _,b,_|_::_, .fh _ _ _ _,b,_=>by grind [oU]
theorem iw{C}: ∀{a s o},cg a=false->cX a=true->M C a s o->∃v,s o=some v/\bj v=true
 | .cP,_,_,_,d,_=>by simp[cX] at d
 | .aH _,_,_,_,d,_=>by simp[cX] at d
 | .agg _,_,_,e,_,_=>by simp[cg] at e
 | .lit _,_,_,_,_,h=>by grind [M]
 | .ah _ _,_,_,_,_,h=>by simp only[M] at h;obtain⟨_,p,cap,c,_⟩:=h;exact⟨_,c,rfl⟩
 | .ak _ _ _,_,_,_,_,h=>by grind [M]
 | .ptr _ _ _ _,_,_,_,_,h=>by grind [M]
 | .jK _ _,_,_,_,_,h=>by obtain⟨b,off,c,_⟩:=h;exact⟨_,c,rfl⟩
 | .mp _,_,_,_,_,h=>by grind [M]
 | .cn _,_,_,_,_,h=>by grind [M]
 | .lZ _ _,_,_,_,_,h=>by grind [M]
 | .bo _ _,_,_,_,_,h=>by simp only[M] at h;obtain⟨f,c,_⟩:=h;exact⟨_,c,rfl⟩
 | .jT _ _,_,_,_,_,h=>by obtain⟨u,c,_⟩:=h;exact⟨_,c,rfl⟩
 | .fh _ _ _ _,_,_,_,_,h=>by
  simp only[M] at h;rcases h with⟨_,h,_⟩|⟨b,_,_,h,_⟩
  ·exact⟨_,h,rfl⟩
  ·exact⟨_,h,rfl⟩
theorem AB{C}(l:Inv C){T b o a h p}(i:bE C.P a h)(e:M C a (cellAt C.w b) o)
  (f:oU a p=true) (c:ec C.P T=cg (o5 a p)) (k:wid (o5 a p)=C.P.cellsOf T) (g:(C.P.underlying T).isSome=true):
  ∃v,(loadVar T ⟨b,o+jJ a p,none⟩).run C.P C.w= .ok v C.w/\Rel C (o5 a p) v:=by
 obtain⟨d,hd⟩:=Option.isSome_iff_exists.1 g;refine oM l hd (Xz p a _ o f e) c k fun j q=>?_
 have m:=qx p a f;obtain⟨v,r,n⟩:=GH a _ _ o i e (jJ a p+j) (by omega)
 grind [cellAt]
theorem yh{C}(H:Inv C){T p x c vp}(h:oK C.P C.st T p=some (c,x))(hr:Rel C p vp):
  ∃v,(Instr.loadAt T vp).run C.P C.w= .ok v C.w/\Rel C x v:=by
 cases p<;>simp only[oK] at h<;>try (simp at h;done)
 ·rename_i i k f off
  obtain⟨hi,U⟩:=mw hr;have m:=H.obj i hi;split at h
  ·rename_i Tb a l
   split at h
   ·rename_i n
    simp only[aC6,beq_iff_eq] at n;obtain⟨⟨⟨⟨z,L⟩,J⟩,I⟩,B⟩:=n;simp only[aC8,aD4] at h;obtain⟨_,rfl⟩:=h;obtain⟨rfl,rfl⟩:=U.2.1 Tb a l;rw[l] at m;obtain⟨_,K,cc,e,V,R,Z⟩:=m;obtain⟨d,hd⟩:=Option.isSome_iff_exists.1 B;have N:=Xz f a _ 0 z Z;have:=oM H hd (b:=(C.ι i).block) N J I (fun j hj=>by
     have hle:=qx f a z;cases O:cg (o5 a f) with
     |false=>
      have hw1:wid (o5 a f)=1:=by cases r:o5 a f<;>simp_all[cg,wid]
      obtain rfl:j=0:=by omega
      obtain⟨v,h6,h7⟩:=iw O (Bf f a z K) N;exact⟨v,h6,fun _=>h7⟩
     |true=>
      have:(C.w.cell? ⟨(C.ι i).block,0+jJ a f+j,none⟩)=cc[0+jJ a f+j]? :=by simp[World.cell?,V]
      rw[this,Array.getElem?_eq_getElem (by omega)];exact⟨_,rfl,fun e=>by cases e⟩)
    simp only[Nat.zero_add,L] at this;simpa[Instr.loadAt,Instr.sureAddr] using this
   ·simp at h
  ·rename_i t E ls l
   split at h
   ·split at h
    ·rename_i n
     simp only[aC6,beq_iff_eq] at n;obtain⟨⟨⟨z,L⟩,rfl⟩,B⟩:=n;simp only[aC8,aD4] at h;obtain⟨_,rfl⟩:=h;obtain⟨A,_,rfl⟩:=U.2.2.2.2.2 T E ls none l;rw[l] at m;obtain⟨_,hU,_,_,c,V,R,n⟩:=m;obtain⟨v,hv,s⟩:=n k A (by simp);obtain⟨d,hd⟩:=Option.isSome_iff_exists.1 B;have F:C.w.cell? ⟨(C.ι i).block,k,none⟩=some v:=by simp only[World.cell?,V];exact hv
     have q:bj v=true/\e6 v=false:=by
      rcases s.2 with⟨rfl,_⟩|⟨b,cap,c,rfl,_⟩<;>exact⟨rfl,rfl⟩
     refine⟨v,?_, .inl q.2, .inl (by rw[iy q.2];rfl),?_⟩
     ·simp only[Instr.loadAt,Instr.sureAddr,Sem.run_bind,Sem.run_pure,Result.andThen_ok,loadVar,iC hd,z,Bool.false_eq_true,if_false]
      exact mz F
     ·rw[iy q.2]
      simp only[M];refine⟨hi,v,rfl,q.1,fun T' xs r=>by rw[l] at r;simp[iL] at r,fun T' E' ls' pd r=>?_⟩;rw[l] at r;cases r;exact⟨A,s⟩
    ·simp at h
   ·simp at h
  ·rename_i hno hno2
   split at h
   ·rename_i t xs o
    split at h
    ·rename_i n
     simp only[aC6,beq_iff_eq] at n;obtain⟨⟨⟨⟨z,L⟩,J⟩,I⟩,B⟩:=n;simp only[aC8,aD4] at h;obtain⟨_,rfl⟩:=h;obtain⟨A,rfl⟩:=U.1 t xs o;have u:cu C.P xs t/\MR C xs (C.P.cellsOf t) (cellAt C.w (C.ι i).block) 0:=by
      cases r:ay C.st i<;>rw[r] at o m<;>simp[iL] at o
      ·obtain⟨rfl,rfl⟩:=o
       obtain⟨Q,⟨_,X⟩|⟨_,_,cc,_,_,_,_,W⟩⟩:=m
       ·subst X;simp at A
       ·exact⟨Q,W⟩
      ·obtain⟨rfl,rfl⟩:=o
       obtain⟨Q,⟨_,X⟩|⟨_,_,W⟩⟩:=m
       ·subst X;simp at A
       ·exact⟨Q,W⟩
     have N:=DW xs k _ _ _ A u.2;have hT:=pK xs k t A u.1;obtain⟨Y,D⟩:=mY H.lay cr t _ _ _ hT N;have:=AB H D Y z J I B
     simp only[Nat.zero_add,L] at this;simpa[Instr.loadAt,Instr.sureAddr] using this
    ·simp at h
   ·simp at h
 ·rename_i t a
  split at h
  ·rename_i n
   simp only[aC6,beq_iff_eq] at n;obtain⟨⟨J,I⟩,B⟩:=n;simp only[aC8,aD4] at h;obtain⟨_,rfl⟩:=h;obtain⟨b,off,rfl,hX,ht,Z⟩:=CV hr;obtain⟨Y,D⟩:=mY H.lay cr t _ _ _ ht Z;have g: ∀y:AV,oU y []=true/\jJ y []=0/\o5 y []=y:=fun y=>by cases y<;>simp[oU,jJ,o5]
   have:=AB H (p:=[]) D Y (g _).1 (by rw[(g _).2.2];exact J) (by rw[(g _).2.2];exact I) B
   rw[(g _).2.1,(g _).2.2,Nat.add_zero] at this;simpa[Instr.loadAt,Instr.sureAddr] using this
  ·simp at h
end Go.Dn
