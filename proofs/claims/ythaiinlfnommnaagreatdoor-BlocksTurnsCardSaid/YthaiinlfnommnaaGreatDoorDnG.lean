import Derived.Test.YthaiinlfnommnaaGreatDoorDnF
namespace Go.Dn
open Go
theorem gm{C:Ctx}{a:AV}{v:Value}(h:Rel C a v)(ha:bV a=false)(hj:a≠ .cH):v.cells= #[v]/\eB v=false:=by
 have h1:=h.1.resolve_right hj
 rw[ha] at h1
 exact⟨gF h1,h1⟩
theorem aQ{C:Ctx}{u v:Value}(h:Rel C (.lit u) v):v=u:=by
 have h1:=gm h rfl (by simp)
 have h2:=h.2.2
 simp only[M] at h2
 rw[h1.1] at h2
 simpa using h2.1
theorem mw{C:Ctx}{i k off:Nat}{p:List Nat}{v:Value}(h:Rel C (.ptr i k p off) v):i<C.st.length/\pn C i k off v:=by
 have h1:=gm h rfl (by simp)
 have h2:=h.2.2
 simp only[M] at h2
 rw[h1.1] at h2
 obtain⟨hi,u,hu,_,hp⟩:=h2
 simp at hu;subst hu
 exact⟨hi,hp⟩
theorem gG{C:Ctx}{i lo n:Nat}{v:Value}(h:Rel C (.aq i lo n) v):i<C.st.length/\j2 C i lo n v:=by
 have h1:=gm h rfl (by simp)
 have h2:=h.2.2
 simp only[M] at h2
 rw[h1.1] at h2
 obtain⟨hi,u,hu,_,hp⟩:=h2
 simp at hu;subst hu
 exact⟨hi,hp⟩
theorem rp{C:Ctx}{i:Nat}{v:Value}(h:Rel C (.mp i) v):i<C.st.length/\JH C i v:=by
 have h1:=gm h rfl (by simp)
 have h2:=h.2.2
 simp only[M] at h2
 rw[h1.1] at h2
 obtain⟨hi,u,hu,_,hp⟩:=h2
 simp at hu;subst hu
 exact⟨hi,hp⟩
theorem OY{C:Ctx}{T:TypeId}{a:AV}{v:Value}(h:Rel C (.jj T a) v): ∃u,v= .iface T u:=by
 have hl:=h.2.1.resolve_right (by simp)
 have ha:=h.1.resolve_right (by simp)
 have hc:=gF (v:=v) (by rw[ha];rfl)
 have hm:=h.2.2
 simp only[M] at hm
 obtain⟨u,h1,_⟩:=hm
 rw[hc] at h1
 exact⟨u,by simpa using h1⟩
theorem zw{C:Ctx}{i:Nat}{v:Value}(h:Rel C (.cD i) v):i<C.st.length/\xt C i v:=by
 have h1:=gm h rfl (by simp)
 have h2:=h.2.2
 simp only[M] at h2
 rw[h1.1] at h2
 obtain⟨hi,u,hu,_,hp⟩:=h2
 simp at hu;subst hu
 exact⟨hi,hp⟩
theorem MJ{C:Ctx}{i:Nat}{k v:Value}(h:Rel C (.kq i k) v):i<C.st.length/\uR C i k v:=by
 have h1:=gm h rfl (by simp)
 have h2:=h.2.2
 simp only[M] at h2
 rw[h1.1] at h2
 obtain⟨hi,u,hu,_,hp⟩:=h2
 simp at hu;subst hu
 exact⟨hi,hp⟩
theorem rf{C:Ctx}{T:TypeId}{l:List AV}{v:Value}(h:Rel C (.ad T l) v):bI C.P l T/\∃p cap,v= .slice p l.length cap/\l.length<=cap/\
  (l≠[]->∃b off,p=some ⟨b,off,none⟩/\C.X b/\MR C l (C.P.cellsOf T) (cellAt C.w b) off):=by
 have h1:=gm h rfl (by simp)
 have h2:=h.2.2
 simp only[M] at h2
 rw[h1.1] at h2
 obtain⟨hp,p,cap,hu,h3⟩:=h2
 simp at hu;subst hu
 exact⟨hp,p,cap,rfl,h3⟩
theorem zk{C:Ctx}{T:TypeId}{a:AV}{v:Value}(h:Rel C (.jO T a) v): ∃b off,v= .pointer (some ⟨b,off,none⟩)/\C.X b/\bC C.P a T/\M C a (cellAt C.w b) off:=by
 have h1:=gm h rfl (by simp)
 have h2:=h.2.2
 simp only[M] at h2
 rw[h1.1] at h2
 obtain⟨b,off,hu,h3⟩:=h2
 simp at hu;subst hu
 exact⟨b,off,rfl,h3⟩
theorem Au{C:Ctx}{l:List AV}{v:Value}(h:Rel C (.bh l) v): ∃vs,v= .tuple vs/\MT C l vs.toList:=by
 have h1:=gm h rfl (by simp)
 have h2:=h.2.2
 simp only[M] at h2
 rw[h1.1] at h2
 obtain⟨vs,hu,h3⟩:=h2
 simp at hu;subst hu
 exact⟨vs,rfl,h3⟩
theorem tJ{C:Ctx}{f:FuncId}{l:List AV}{v:Value}(h:Rel C (.bL f l) v): ∃vs,v= .func (.func f) #[] vs/\MT C l vs.toList:=by
 have h1:=gm h rfl (by simp)
 have h2:=h.2.2
 simp only[M] at h2
 rw[h1.1] at h2
 obtain⟨vs,hu,h3⟩:=h2
 simp at hu;subst hu
 exact⟨vs,rfl,h3⟩
theorem GK{C:Ctx}{l:List AV}{v:Value}(h:Rel C (.agg l) v): ∃cs:Array Value,v= .agg cs/\cs.size=eO l/\ML C l (fun j=>cs[j]?) 0:=by
 have h1:=h.1.resolve_right (by simp)
 have h2:=h.2.1.resolve_right (by simp)
 have h3:=h.2.2
 cases v<;>simp[eB,bV] at h1
 rename_i cs
 simp only[Value.cells,wid] at h2
 simp only[M,Value.cells] at h3
 exact⟨cs,rfl,h2,h3⟩
theorem eF{C:Ctx}{a:AV}{v:Value}(ha:bV a=false)(hv:eB v=false)(h:M C a (fun _=>some v) 0)(hI:Inv C):Rel C a v:=by
 have hw:wid a=1:=by cases a<;>simp_all[bV,wid]
 have hc:=gF hv
 refine⟨.inl (by rw[ha,hv]), .inl (by rw[hc,hw];rfl),jR hI (fun j hj=>?_) h⟩
 obtain rfl:j=0:=by omega
 simp[hc]
theorem B7{C:Ctx}: ∀(l:List AV) (k z:Nat) (s:Src) (o:Nat),k<l.length->MR C l z s o->M C (nth l k) s (o+k*z)
 |[],_,_,_,_,h,_=>by simp at h
 |a::l,0,z,s,o,_,h=>by simp only[MR] at h;simpa[nth] using h.1
 |a::l,k+1,z,s,o,hk,h=>by
  simp only[MR] at h
  have:=B7 l k z s (o+z) (by simpa using hk) h.2
  simp only[nth]
  rwa [show o+(k+1)*z=o+z+k*z by rw[Nat.add_mul];omega]
theorem nj{P:Program}: ∀(l:List AV) (k:Nat) (T:TypeId),k<l.length->bI P l T->bC P (nth l k) T
 |[],_,_,h,_=>by simp at h
 |a::l,0,T,_,h=>by simp only[bI] at h;simpa[nth] using h.1
 |a::l,k+1,T,hk,h=>by
  simp only[bI] at h
  simpa[nth] using nj l k T (by simpa using hk) h.2
theorem tV: ∀(l:List AV) (j:Nat),j<l.length->dH l=true->cL (nth l j)=true
 |[],_,h,_=>by simp at h
 |a::l,0,_,h=>by
  simp only[dH,aa2] at h
  exact h.1
 |a::l,j+1,hj,h=>by
  simp only[dH,aa2] at h
  simpa[nth] using tV l j (by simpa using hj) h.2
theorem xn: ∀(p:List Nat) (a:AV),mY a p=true->cL a=true->cL (mz a p)=true
 |[],a,_,h=>by cases a<;>exact h
 |j::p, .agg l,hp,h=>by
  simp only[mY,aa2,aa1] at hp
  simp only[mz,ae]
  exact xn p (nth l j) hp.2 (tV l j hp.1 h)
 |_::_, .cH,hp,_|_::_, .lit _,hp,_|_::_, .ad _ _,hp,_|_::_, .bh _,hp,_|_::_, .aq _ _ _,hp,_
 |_::_, .ptr _ _ _ _,hp,_|_::_, .jO _ _,hp,_|_::_, .mp _,hp,_|_::_, .cD _,hp,_|_::_, .kq _ _,hp,_
 |_::_, .bL _ _,hp,_|_::_, .jj _ _,hp,_|_::_, .jG _ _ _ _,hp,_=>by simp[mY] at hp
theorem gE{C:Ctx}: ∀{a:AV} {s:Src} {o:Nat},bV a=false->cL a=true->M C a s o->∃v,s o=some v/\bg v=true
 | .cH,_,_,_,hs,_=>by simp[cL] at hs
 | .bh _,_,_,_,hs,_=>by simp[cL] at hs
 | .agg _,_,_,ha,_,_=>by simp[bV] at ha
 | .lit _,_,_,_,_,h=>by simp only[M] at h;exact⟨_,h⟩
 | .ad _ _,_,_,_,_,h=>by simp only[M] at h;obtain⟨_,p,cap,h1,_⟩:=h;exact⟨_,h1,rfl⟩
 | .aq _ _ _,_,_,_,_,h=>by simp only[M] at h;obtain⟨_,v,h1,h2,_⟩:=h;exact⟨v,h1,h2⟩
 | .ptr _ _ _ _,_,_,_,_,h=>by simp only[M] at h;obtain⟨_,v,h1,h2,_⟩:=h;exact⟨v,h1,h2⟩
 | .jO _ _,_,_,_,_,h=>by simp only[M] at h;obtain⟨b,off,h1,_⟩:=h;exact⟨_,h1,rfl⟩
 | .mp _,_,_,_,_,h=>by simp only[M] at h;obtain⟨_,v,h1,h2,_⟩:=h;exact⟨v,h1,h2⟩
 | .cD _,_,_,_,_,h=>by simp only[M] at h;obtain⟨_,v,h1,h2,_⟩:=h;exact⟨v,h1,h2⟩
 | .kq _ _,_,_,_,_,h=>by simp only[M] at h;obtain⟨_,v,h1,h2,_⟩:=h;exact⟨v,h1,h2⟩
 | .bL _ _,_,_,_,_,h=>by simp only[M] at h;obtain⟨vs,h1,_⟩:=h;exact⟨_,h1,rfl⟩
 | .jj _ _,_,_,_,_,h=>by simp only[M] at h;obtain⟨u,h1,_⟩:=h;exact⟨_,h1,rfl⟩
 | .jG _ _ _ _,_,_,_,_,h=>by
  simp only[M] at h
  rcases h with⟨h,_⟩|⟨b,_,_,h,_⟩
  ·exact⟨_,h,rfl⟩
  ·exact⟨_,h,rfl⟩
theorem xH{C:Ctx}(hI:Inv C){T:TypeId}{b o:Nat}{a:AV}{T0:TypeId}{p:List Nat}(ht:bC C.P a T0)(hm:M C a (cellAt C.w b) o)
  (hp:mY a p=true) (hag:fu C.P T=bV (mz a p)) (hw:wid (mz a p)=C.P.cellsOf T) (hs:(C.P.underlying T).isSome=true):
  ∃v,(loadVar T ⟨b,o+gW a p,none⟩).run C.P C.w= .ok v C.w/\Rel C (mz a p) v:=by
 obtain⟨d,hd⟩:=Option.isSome_iff_exists.1 hs
 refine mX hI hd (Of p a _ o hp hm) hag hw (fun j hj=>?_)
 have hle:=oH p a hp
 obtain⟨v,h1,h2⟩:=EV a T0 _ o ht hm (gW a p+j) (by omega)
 exact⟨v,by rw[←h1];simp only[cellAt];congr 2;omega,fun _=>h2⟩
theorem vI{C:Ctx}(hI:Inv C){T:TypeId}{p x:AV}{c:Bool}{vp:Value}(h:mW C.P C.st T p=some (c,x))(hr:Rel C p vp):
  ∃v,(Instr.loadAt T vp).run C.P C.w= .ok v C.w/\Rel C x v:=by
 cases p<;>simp only[mW] at h<;>try (simp at h;done)
 ·rename_i i k path off
  obtain⟨hi,hp⟩:=mw hr
  have hob:=hI.obj i hi
  split at h
  ·rename_i Tb a hst
   split at h
   ·rename_i hc
    simp only[aa2,beq_iff_eq] at hc
    obtain⟨⟨⟨⟨h1,h2⟩,h3⟩,h4⟩,h5⟩:=hc
    simp only[aa4,ab0] at h
    obtain⟨_,rfl⟩:=h
    obtain⟨rfl,rfl⟩:=hp.2.1 Tb a hst
    rw[hst] at hob
    obtain⟨_,hsol,cc,e,hh,hsz,hm⟩:=hob
    obtain⟨d,hd⟩:=Option.isSome_iff_exists.1 h5
    have hM:=Of path a _ 0 h1 hm
    have:=mX hI hd (b:=(C.ι i).block) hM h3 h4 (fun j hj=>by
     have hle:=oH path a h1
     cases hag:bV (mz a path) with
     |false=>
      have hw1:wid (mz a path)=1:=by cases hx:mz a path<;>simp_all[bV,wid]
      obtain rfl:j=0:=by omega
      obtain⟨v,h6,h7⟩:=gE hag (xn path a h1 hsol) hM
      exact⟨v,h6,fun _=>h7⟩
     |true=>
      have:(C.w.cell? ⟨(C.ι i).block,0+gW a path+j,none⟩)=cc[0+gW a path+j]? :=by simp[World.cell?,hh]
      rw[this,Array.getElem?_eq_getElem (by omega)]
      exact⟨_,rfl,fun e=>by cases e⟩)
    simp only[Nat.zero_add,h2] at this
    simpa[Instr.loadAt,Instr.sureAddr] using this
   ·simp at h
  ·rename_i T0 E ls hst
   split at h
   ·split at h
    ·rename_i hc
     simp only[aa2,beq_iff_eq] at hc
     obtain⟨⟨⟨h1,h2⟩,rfl⟩,h5⟩:=hc
     simp only[aa4,ab0] at h
     obtain⟨_,rfl⟩:=h
     obtain⟨hk,_,rfl⟩:=hp.2.2.2.2.2 T E ls none hst
     rw[hst] at hob
     obtain⟨_,hU,_,_,c,hh,hsz,hc⟩:=hob
     obtain⟨v,hv,hsub⟩:=hc k hk (by simp)
     obtain⟨d,hd⟩:=Option.isSome_iff_exists.1 h5
     have hcell:C.w.cell? ⟨(C.ι i).block,k,none⟩=some v:=by simp only[World.cell?,hh];exact hv
     have hv1:bg v=true/\eB v=false:=by
      rcases hsub.2 with⟨rfl,_⟩|⟨b,cap,c,rfl,_⟩<;>exact⟨rfl,rfl⟩
     refine⟨v,?_, .inl hv1.2, .inl (by rw[gF hv1.2];rfl),?_⟩
     ·simp only[Instr.loadAt,Instr.sureAddr,Sem.run_bind,Sem.run_pure,Result.andThen_ok,loadVar,kk hd,h1,Bool.false_eq_true,if_false]
      exact lr hcell
     ·rw[gF hv1.2]
      simp only[M]
      refine⟨hi,v,rfl,hv1.1,fun T' xs hx=>by rw[hst] at hx;simp[gY] at hx,fun T' E' ls' pd hx=>?_⟩
      rw[hst] at hx
      cases hx
      exact⟨hk,hsub⟩
    ·simp at h
   ·simp at h
  ·rename_i hno hno2
   split at h
   ·rename_i T0 xs hel
    split at h
    ·rename_i hc
     simp only[aa2,beq_iff_eq] at hc
     obtain⟨⟨⟨⟨h1,h2⟩,h3⟩,h4⟩,h5⟩:=hc
     simp only[aa4,ab0] at h
     obtain⟨_,rfl⟩:=h
     obtain⟨hk,rfl⟩:=hp.1 T0 xs hel
     have hrow:bI C.P xs T0/\MR C xs (C.P.cellsOf T0) (cellAt C.w (C.ι i).block) 0:=by
      cases hx:ax C.st i<;>rw[hx] at hel hob<;>simp[gY] at hel
      ·obtain⟨rfl,rfl⟩:=hel
       obtain⟨g1,⟨_,g2⟩|⟨_,_,cc,_,_,_,_,g3⟩⟩:=hob
       ·subst g2;simp at hk
       ·exact⟨g1,g3⟩
      ·obtain⟨rfl,rfl⟩:=hel
       obtain⟨g1,⟨_,g2⟩|⟨_,_,g3⟩⟩:=hob
       ·subst g2;simp at hk
       ·exact⟨g1,g3⟩
     have hM:=B7 xs k _ _ _ hk hrow.2
     have hT:=nj xs k T0 hk hrow.1
     obtain⟨hE,hTE⟩:=l4 hI.lay cj T0 _ _ _ hT hM
     have:=xH hI hTE hE h1 h3 h4 h5
     simp only[Nat.zero_add,h2] at this
     simpa[Instr.loadAt,Instr.sureAddr] using this
    ·simp at h
   ·simp at h
 ·rename_i T0 a
  split at h
  ·rename_i hc
   simp only[aa2,beq_iff_eq] at hc
   obtain⟨⟨h3,h4⟩,h5⟩:=hc
   simp only[aa4,ab0] at h
   obtain⟨_,rfl⟩:=h
   obtain⟨b,off,rfl,hX,ht,hm⟩:=zk hr
   obtain⟨hE,hTE⟩:=l4 hI.lay cj T0 _ _ _ ht hm
   have hnil: ∀y:AV,mY y []=true/\gW y []=0/\mz y []=y:=fun y=>by cases y<;>simp[mY,gW,mz]
   have:=xH hI (p:=[]) hTE hE (hnil _).1 (by rw[(hnil _).2.2];exact h3) (by rw[(hnil _).2.2];exact h4) h5
   rw[(hnil _).2.1,(hnil _).2.2,Nat.add_zero] at this
   simpa[Instr.loadAt,Instr.sureAddr] using this
  ·simp at h
end Go.Dn
