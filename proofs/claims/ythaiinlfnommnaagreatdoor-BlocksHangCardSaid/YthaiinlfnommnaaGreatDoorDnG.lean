import Derived.Test.YthaiinlfnommnaaGreatDoorDnF
namespace Go.Dn
open Go
theorem gF{C:Ctx}{a:AV}{v:Value}(h:Rel C a v)(ha:bV a=false)(hj:a≠ .cG):v.cells= #[v]/\eE v=false:=by
 have h1:=h.1.resolve_right hj
 rw[ha] at h1
 exact⟨gM h1,h1⟩
theorem aQ{C:Ctx}{u v:Value}(h:Rel C (.lit u) v):v=u:=by
 have h1:=gF h rfl (by simp)
 have h2:=h.2.2
 simp only[M] at h2
 rw[h1.1] at h2
 simpa using h2.1
theorem mM{C:Ctx}{i k off:Nat}{p:List Nat}{v:Value}(h:Rel C (.ptr i k p off) v):i<C.st.length/\pH C i k off v:=by
 have h1:=gF h rfl (by simp)
 have h2:=h.2.2
 simp only[M] at h2
 rw[h1.1] at h2
 obtain⟨hi,u,hu,_,hp⟩:=h2
 simp at hu;subst hu
 exact⟨hi,hp⟩
theorem gL{C:Ctx}{i lo n:Nat}{v:Value}(h:Rel C (.an i lo n) v):i<C.st.length/\j6 C i lo n v:=by
 have h1:=gF h rfl (by simp)
 have h2:=h.2.2
 simp only[M] at h2
 rw[h1.1] at h2
 obtain⟨hi,u,hu,_,hp⟩:=h2
 simp at hu;subst hu
 exact⟨hi,hp⟩
theorem sm{C:Ctx}{i:Nat}{v:Value}(h:Rel C (.mp i) v):i<C.st.length/\L3 C i v:=by
 have h1:=gF h rfl (by simp)
 have h2:=h.2.2
 simp only[M] at h2
 rw[h1.1] at h2
 obtain⟨hi,u,hu,_,hp⟩:=h2
 simp at hu;subst hu
 exact⟨hi,hp⟩
theorem Pe{C:Ctx}{T:TypeId}{a:AV}{v:Value}(h:Rel C (.jj T a) v): ∃u,v= .iface T u:=by
 have hl:=h.2.1.resolve_right (by simp)
 have ha:=h.1.resolve_right (by simp)
 have hc:=gM (v:=v) (by rw[ha];rfl)
 have hm:=h.2.2
 simp only[M] at hm
 obtain⟨u,h1,_⟩:=hm
 rw[hc] at h1
 exact⟨u,by simpa using h1⟩
theorem zX{C:Ctx}{i:Nat}{v:Value}(h:Rel C (.cD i) v):i<C.st.length/\ye C i v:=by
 have h1:=gF h rfl (by simp)
 have h2:=h.2.2
 simp only[M] at h2
 rw[h1.1] at h2
 obtain⟨hi,u,hu,_,hp⟩:=h2
 simp at hu;subst hu
 exact⟨hi,hp⟩
theorem OB{C:Ctx}{i:Nat}{k v:Value}(h:Rel C (.ku i k) v):i<C.st.length/\u6 C i k v:=by
 have h1:=gF h rfl (by simp)
 have h2:=h.2.2
 simp only[M] at h2
 rw[h1.1] at h2
 obtain⟨hi,u,hu,_,hp⟩:=h2
 simp at hu;subst hu
 exact⟨hi,hp⟩
theorem q9{C:Ctx}{T:TypeId}{l:List AV}{v:Value}(h:Rel C (.ad T l) v):bI C.P l T/\∃p cap,v= .slice p l.length cap/\l.length<=cap/\
  (l≠[]->∃b off,p=some ⟨b,off,none⟩/\C.X b/\MR C l (C.P.cellsOf T) (cellAt C.w b) off):=by
 have h1:=gF h rfl (by simp)
 have h2:=h.2.2
 simp only[M] at h2
 rw[h1.1] at h2
 obtain⟨hp,p,cap,hu,h3⟩:=h2
 simp at hu;subst hu
 exact⟨hp,p,cap,rfl,h3⟩
theorem y3{C:Ctx}{T:TypeId}{a:AV}{v:Value}(h:Rel C (.jS T a) v): ∃b off,v= .pointer (some ⟨b,off,none⟩)/\C.X b/\bC C.P a T/\M C a (cellAt C.w b) off:=by
 have h1:=gF h rfl (by simp)
 have h2:=h.2.2
 simp only[M] at h2
 rw[h1.1] at h2
 obtain⟨b,off,hu,h3⟩:=h2
 simp at hu;subst hu
 exact⟨b,off,rfl,h3⟩
theorem y6{C:Ctx}{l:List AV}{v:Value}(h:Rel C (.bh l) v): ∃vs,v= .tuple vs/\MT C l vs.toList:=by
 have h1:=gF h rfl (by simp)
 have h2:=h.2.2
 simp only[M] at h2
 rw[h1.1] at h2
 obtain⟨vs,hu,h3⟩:=h2
 simp at hu;subst hu
 exact⟨vs,rfl,h3⟩
theorem tW{C:Ctx}{f:FuncId}{l:List AV}{v:Value}(h:Rel C (.bL f l) v): ∃vs,v= .func (.func f) #[] vs/\MT C l vs.toList:=by
 have h1:=gF h rfl (by simp)
 have h2:=h.2.2
 simp only[M] at h2
 rw[h1.1] at h2
 obtain⟨vs,hu,h3⟩:=h2
 simp at hu;subst hu
 exact⟨vs,rfl,h3⟩
theorem GG{C:Ctx}{l:List AV}{v:Value}(h:Rel C (.agg l) v): ∃cs:Array Value,v= .agg cs/\cs.size=eQ l/\ML C l (fun j=>cs[j]?) 0:=by
 have h1:=h.1.resolve_right (by simp)
 have h2:=h.2.1.resolve_right (by simp)
 have h3:=h.2.2
 cases v<;>simp[eE,bV] at h1
 rename_i cs
 simp only[Value.cells,wid] at h2
 simp only[M,Value.cells] at h3
 exact⟨cs,rfl,h2,h3⟩
theorem eH{C:Ctx}{a:AV}{v:Value}(ha:bV a=false)(hv:eE v=false)(h:M C a (fun _=>some v) 0)(hI:Inv C):Rel C a v:=by
 have hw:wid a=1:=by cases a<;>simp_all[bV,wid]
 have hc:=gM hv
 refine⟨.inl (by rw[ha,hv]), .inl (by rw[hc,hw];rfl),jM hI (fun j hj=>?_) h⟩
 obtain rfl:j=0:=by omega
 simp[hc]
theorem BK{C:Ctx}: ∀(l:List AV) (k z:Nat) (s:Src) (o:Nat),k<l.length->MR C l z s o->M C (nth l k) s (o+k*z)
 |[],_,_,_,_,h,_=>by simp at h
 |a::l,0,z,s,o,_,h=>by simp only[MR] at h;simpa[nth] using h.1
 |a::l,k+1,z,s,o,hk,h=>by
  simp only[MR] at h
  have:=BK l k z s (o+z) (by simpa using hk) h.2
  simp only[nth]
  rwa [show o+(k+1)*z=o+z+k*z by rw[Nat.add_mul];omega]
theorem nO{P:Program}: ∀(l:List AV) (k:Nat) (T:TypeId),k<l.length->bI P l T->bC P (nth l k) T
 |[],_,_,h,_=>by simp at h
 |a::l,0,T,_,h=>by simp only[bI] at h;simpa[nth] using h.1
 |a::l,k+1,T,hk,h=>by
  simp only[bI] at h
  simpa[nth] using nO l k T (by simpa using hk) h.2
theorem wz: ∀(l:List AV) (j:Nat),j<l.length->dI l=true->cO (nth l j)=true
 |[],_,h,_=>by simp at h
 |a::l,0,_,h=>by
  simp only[dI,aa2] at h
  exact h.1
 |a::l,j+1,hj,h=>by
  simp only[dI,aa2] at h
  simpa[nth] using wz l j (by simpa using hj) h.2
theorem yq: ∀(p:List Nat) (a:AV),nk a p=true->cO a=true->cO (mC a p)=true
 |[],a,_,h=>by cases a<;>exact h
 |j::p, .agg l,hp,h=>by
  simp only[nk,aa2,aa1] at hp
  simp only[mC,ae]
  exact yq p (nth l j) hp.2 (wz l j hp.1 h)
 |_::_, .cG,hp,_|_::_, .lit _,hp,_|_::_, .ad _ _,hp,_|_::_, .bh _,hp,_|_::_, .an _ _ _,hp,_
 |_::_, .ptr _ _ _ _,hp,_|_::_, .jS _ _,hp,_|_::_, .mp _,hp,_|_::_, .cD _,hp,_|_::_, .ku _ _,hp,_
 |_::_, .bL _ _,hp,_|_::_, .jj _ _,hp,_|_::_, .jE _ _ _ _,hp,_=>by simp[nk] at hp
theorem gQ{C:Ctx}: ∀{a:AV} {s:Src} {o:Nat},bV a=false->cO a=true->M C a s o->∃v,s o=some v/\bg v=true
 | .cG,_,_,_,hs,_=>by simp[cO] at hs
 | .bh _,_,_,_,hs,_=>by simp[cO] at hs
 | .agg _,_,_,ha,_,_=>by simp[bV] at ha
 | .lit _,_,_,_,_,h=>by simp only[M] at h;exact⟨_,h⟩
 | .ad _ _,_,_,_,_,h=>by simp only[M] at h;obtain⟨_,p,cap,h1,_⟩:=h;exact⟨_,h1,rfl⟩
 | .an _ _ _,_,_,_,_,h=>by simp only[M] at h;obtain⟨_,v,h1,h2,_⟩:=h;exact⟨v,h1,h2⟩
 | .ptr _ _ _ _,_,_,_,_,h=>by simp only[M] at h;obtain⟨_,v,h1,h2,_⟩:=h;exact⟨v,h1,h2⟩
 | .jS _ _,_,_,_,_,h=>by simp only[M] at h;obtain⟨b,off,h1,_⟩:=h;exact⟨_,h1,rfl⟩
 | .mp _,_,_,_,_,h=>by simp only[M] at h;obtain⟨_,v,h1,h2,_⟩:=h;exact⟨v,h1,h2⟩
 | .cD _,_,_,_,_,h=>by simp only[M] at h;obtain⟨_,v,h1,h2,_⟩:=h;exact⟨v,h1,h2⟩
 | .ku _ _,_,_,_,_,h=>by simp only[M] at h;obtain⟨_,v,h1,h2,_⟩:=h;exact⟨v,h1,h2⟩
 | .bL _ _,_,_,_,_,h=>by simp only[M] at h;obtain⟨vs,h1,_⟩:=h;exact⟨_,h1,rfl⟩
 | .jj _ _,_,_,_,_,h=>by simp only[M] at h;obtain⟨u,h1,_⟩:=h;exact⟨_,h1,rfl⟩
 | .jE _ _ _ _,_,_,_,_,h=>by
  simp only[M] at h
  rcases h with⟨h,_⟩|⟨b,_,_,h,_⟩
  ·exact⟨_,h,rfl⟩
  ·exact⟨_,h,rfl⟩
theorem xU{C:Ctx}(hI:Inv C){T:TypeId}{b o:Nat}{a:AV}{T0:TypeId}{p:List Nat}(ht:bC C.P a T0)(hm:M C a (cellAt C.w b) o)
  (hp:nk a p=true) (hag:fx C.P T=bV (mC a p)) (hw:wid (mC a p)=C.P.cellsOf T) (hs:(C.P.underlying T).isSome=true):
  ∃v,(loadVar T ⟨b,o+gV a p,none⟩).run C.P C.w= .ok v C.w/\Rel C (mC a p) v:=by
 obtain⟨d,hd⟩:=Option.isSome_iff_exists.1 hs
 refine ni hI hd (O4 p a _ o hp hm) hag hw (fun j hj=>?_)
 have hle:=o8 p a hp
 obtain⟨v,h1,h2⟩:=Du a T0 _ o ht hm (gV a p+j) (by omega)
 exact⟨v,by rw[←h1];simp only[cellAt];congr 2;omega,fun _=>h2⟩
theorem uI{C:Ctx}(hI:Inv C){T:TypeId}{p x:AV}{c:Bool}{vp:Value}(h:nj C.P C.st T p=some (c,x))(hr:Rel C p vp):
  ∃v,(Instr.loadAt T vp).run C.P C.w= .ok v C.w/\Rel C x v:=by
 cases p<;>simp only[nj] at h<;>try (simp at h;done)
 ·rename_i i k path off
  obtain⟨hi,hp⟩:=mM hr
  have hob:=hI.obj i hi
  split at h
  ·rename_i Tb a hst
   split at h
   ·rename_i hc
    simp only[aa2,beq_iff_eq] at hc
    obtain⟨⟨⟨⟨h1,h2⟩,h3⟩,h4⟩,h5⟩:=hc
    simp only[aa4,ab0] at h
    obtain⟨_,rfl⟩:=h
    obtain⟨rfl,rfl⟩:=hp.2.1 Tb a hst
    rw[hst] at hob
    obtain⟨_,hsol,cc,e,hh,hsz,hm⟩:=hob
    obtain⟨d,hd⟩:=Option.isSome_iff_exists.1 h5
    have hM:=O4 path a _ 0 h1 hm
    have:=ni hI hd (b:=(C.ι i).block) hM h3 h4 (fun j hj=>by
     have hle:=o8 path a h1
     cases hag:bV (mC a path) with
     |false=>
      have hw1:wid (mC a path)=1:=by cases hx:mC a path<;>simp_all[bV,wid]
      obtain rfl:j=0:=by omega
      obtain⟨v,h6,h7⟩:=gQ hag (yq path a h1 hsol) hM
      exact⟨v,h6,fun _=>h7⟩
     |true=>
      have:(C.w.cell? ⟨(C.ι i).block,0+gV a path+j,none⟩)=cc[0+gV a path+j]? :=by simp[World.cell?,hh]
      rw[this,Array.getElem?_eq_getElem (by omega)]
      exact⟨_,rfl,fun e=>by cases e⟩)
    simp only[Nat.zero_add,h2] at this
    simpa[Instr.loadAt,Instr.sureAddr] using this
   ·simp at h
  ·rename_i T0 E ls hst
   split at h
   ·split at h
    ·rename_i hc
     simp only[aa2,beq_iff_eq] at hc
     obtain⟨⟨⟨h1,h2⟩,rfl⟩,h5⟩:=hc
     simp only[aa4,ab0] at h
     obtain⟨_,rfl⟩:=h
     obtain⟨hk,_,rfl⟩:=hp.2.2.2.2.2 T E ls none hst
     rw[hst] at hob
     obtain⟨_,hU,_,_,c,hh,hsz,hc⟩:=hob
     obtain⟨v,hv,hsub⟩:=hc k hk (by simp)
     obtain⟨d,hd⟩:=Option.isSome_iff_exists.1 h5
     have hcell:C.w.cell? ⟨(C.ι i).block,k,none⟩=some v:=by simp only[World.cell?,hh];exact hv
     have hv1:bg v=true/\eE v=false:=by
      rcases hsub.2 with⟨rfl,_⟩|⟨b,cap,c,rfl,_⟩<;>exact⟨rfl,rfl⟩
     refine⟨v,?_, .inl hv1.2, .inl (by rw[gM hv1.2];rfl),?_⟩
     ·simp only[Instr.loadAt,Instr.sureAddr,Sem.run_bind,Sem.run_pure,Result.andThen_ok,loadVar,kt hd,h1,Bool.false_eq_true,if_false]
      exact lr hcell
     ·rw[gM hv1.2]
      simp only[M]
      refine⟨hi,v,rfl,hv1.1,fun T' xs hx=>by rw[hst] at hx;simp[hJ] at hx,fun T' E' ls' pd hx=>?_⟩
      rw[hst] at hx
      cases hx
      exact⟨hk,hsub⟩
    ·simp at h
   ·simp at h
  ·rename_i hno hno2
   split at h
   ·rename_i T0 xs hel
    split at h
    ·rename_i hc
     simp only[aa2,beq_iff_eq] at hc
     obtain⟨⟨⟨⟨h1,h2⟩,h3⟩,h4⟩,h5⟩:=hc
     simp only[aa4,ab0] at h
     obtain⟨_,rfl⟩:=h
     obtain⟨hk,rfl⟩:=hp.1 T0 xs hel
     have hrow:bI C.P xs T0/\MR C xs (C.P.cellsOf T0) (cellAt C.w (C.ι i).block) 0:=by
      cases hx:aw C.st i<;>rw[hx] at hel hob<;>simp[hJ] at hel
      ·obtain⟨rfl,rfl⟩:=hel
       obtain⟨g1,⟨_,g2⟩|⟨_,_,cc,_,_,_,_,g3⟩⟩:=hob
       ·subst g2;simp at hk
       ·exact⟨g1,g3⟩
      ·obtain⟨rfl,rfl⟩:=hel
       obtain⟨g1,⟨_,g2⟩|⟨_,_,g3⟩⟩:=hob
       ·subst g2;simp at hk
       ·exact⟨g1,g3⟩
     have hM:=BK xs k _ _ _ hk hrow.2
     have hT:=nO xs k T0 hk hrow.1
     obtain⟨hE,hTE⟩:=mo hI.lay cj T0 _ _ _ hT hM
     have:=xU hI hTE hE h1 h3 h4 h5
     simp only[Nat.zero_add,h2] at this
     simpa[Instr.loadAt,Instr.sureAddr] using this
    ·simp at h
   ·simp at h
 ·rename_i T0 a
  split at h
  ·rename_i hc
   simp only[aa2,beq_iff_eq] at hc
   obtain⟨⟨h3,h4⟩,h5⟩:=hc
   simp only[aa4,ab0] at h
   obtain⟨_,rfl⟩:=h
   obtain⟨b,off,rfl,hX,ht,hm⟩:=y3 hr
   obtain⟨hE,hTE⟩:=mo hI.lay cj T0 _ _ _ ht hm
   have hnil: ∀y:AV,nk y []=true/\gV y []=0/\mC y []=y:=fun y=>by cases y<;>simp[nk,gV,mC]
   have:=xU hI (p:=[]) hTE hE (hnil _).1 (by rw[(hnil _).2.2];exact h3) (by rw[(hnil _).2.2];exact h4) h5
   rw[(hnil _).2.1,(hnil _).2.2,Nat.add_zero] at this
   simpa[Instr.loadAt,Instr.sureAddr] using this
  ·simp at h
end Go.Dn
