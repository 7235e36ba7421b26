import Derived.Test.YthaiinlfnommnaaGreatDoorDnF
namespace Go.Dn
open Go
theorem gD{C:Ctx}{a:AV}{v:Value}(h:Rel C a v)(ha:b9 a=false)(hj:a≠ .cP):v.cells= #[v]/\fe v=false:=by
 have h1:=h.1.resolve_right hj
 rw[ha] at h1
 exact⟨gN h1,h1⟩
theorem aV{C:Ctx}{u v:Value}(h:Rel C (.lit u) v):v=u:=by
 have h1:=gD h rfl (by simp)
 have h2:=h.2.2
 simp only[M] at h2
 rw[h1.1] at h2
 simpa using h2.1
theorem mQ{C:Ctx}{i k off:Nat}{p:List Nat}{v:Value}(h:Rel C (.ptr i k p off) v):i<C.st.length/\pE C i k off v:=by
 have h1:=gD h rfl (by simp)
 have h2:=h.2.2
 simp only[M] at h2
 rw[h1.1] at h2
 obtain⟨hi,u,hu,_,hp⟩:=h2
 simp at hu;subst hu
 exact⟨hi,hp⟩
theorem gP{C:Ctx}{i lo n:Nat}{v:Value}(h:Rel C (.ar i lo n) v):i<C.st.length/\lF C i lo n v:=by
 have h1:=gD h rfl (by simp)
 have h2:=h.2.2
 simp only[M] at h2
 rw[h1.1] at h2
 obtain⟨hi,u,hu,_,hp⟩:=h2
 simp at hu;subst hu
 exact⟨hi,hp⟩
theorem rN{C:Ctx}{i:Nat}{v:Value}(h:Rel C (.mp i) v):i<C.st.length/\Lk C i v:=by
 have h1:=gD h rfl (by simp)
 have h2:=h.2.2
 simp only[M] at h2
 rw[h1.1] at h2
 obtain⟨hi,u,hu,_,hp⟩:=h2
 simp at hu;subst hu
 exact⟨hi,hp⟩
theorem O9{C:Ctx}{T:TypeId}{a:AV}{v:Value}(h:Rel C (.jq T a) v): ∃u,v= .iface T u:=by
 have hl:=h.2.1.resolve_right (by simp)
 have ha:=h.1.resolve_right (by simp)
 have hc:=gN (v:=v) (by rw[ha];rfl)
 have hm:=h.2.2
 simp only[M] at hm
 obtain⟨u,h1,_⟩:=hm
 rw[hc] at h1
 exact⟨u,by simpa using h1⟩
theorem A0{C:Ctx}{i:Nat}{v:Value}(h:Rel C (.cK i) v):i<C.st.length/\x3 C i v:=by
 have h1:=gD h rfl (by simp)
 have h2:=h.2.2
 simp only[M] at h2
 rw[h1.1] at h2
 obtain⟨hi,u,hu,_,hp⟩:=h2
 simp at hu;subst hu
 exact⟨hi,hp⟩
theorem Pn{C:Ctx}{i:Nat}{k v:Value}(h:Rel C (.kx i k) v):i<C.st.length/\w6 C i k v:=by
 have h1:=gD h rfl (by simp)
 have h2:=h.2.2
 simp only[M] at h2
 rw[h1.1] at h2
 obtain⟨hi,u,hu,_,hp⟩:=h2
 simp at hu;subst hu
 exact⟨hi,hp⟩
theorem qF{C:Ctx}{T:TypeId}{l:List AV}{v:Value}(h:Rel C (.ad T l) v):bM C.P l T/\∃p cap,v= .slice p l.length cap/\l.length<=cap/\
  (l≠[]->∃b off,p=some ⟨b,off,none⟩/\C.X b/\MR C l (C.P.cellsOf T) (cellAt C.w b) off):=by
 have h1:=gD h rfl (by simp)
 have h2:=h.2.2
 simp only[M] at h2
 rw[h1.1] at h2
 obtain⟨hp,p,cap,hu,h3⟩:=h2
 simp at hu;subst hu
 exact⟨hp,p,cap,rfl,h3⟩
theorem zL{C:Ctx}{T:TypeId}{a:AV}{v:Value}(h:Rel C (.jX T a) v): ∃b off,v= .pointer (some ⟨b,off,none⟩)/\C.X b/\bG C.P a T/\M C a (cellAt C.w b) off:=by
 have h1:=gD h rfl (by simp)
 have h2:=h.2.2
 simp only[M] at h2
 rw[h1.1] at h2
 obtain⟨b,off,hu,h3⟩:=h2
 simp at hu;subst hu
 exact⟨b,off,rfl,h3⟩
theorem Ag{C:Ctx}{l:List AV}{v:Value}(h:Rel C (.bp l) v): ∃vs,v= .tuple vs/\MT C l vs.toList:=by
 have h1:=gD h rfl (by simp)
 have h2:=h.2.2
 simp only[M] at h2
 rw[h1.1] at h2
 obtain⟨vs,hu,h3⟩:=h2
 simp at hu;subst hu
 exact⟨vs,rfl,h3⟩
theorem tM{C:Ctx}{f:FuncId}{l:List AV}{v:Value}(h:Rel C (.bQ f l) v): ∃vs,v= .func (.func f) #[] vs/\MT C l vs.toList:=by
 have h1:=gD h rfl (by simp)
 have h2:=h.2.2
 simp only[M] at h2
 rw[h1.1] at h2
 obtain⟨vs,hu,h3⟩:=h2
 simp at hu;subst hu
 exact⟨vs,rfl,h3⟩
theorem GR{C:Ctx}{l:List AV}{v:Value}(h:Rel C (.agg l) v): ∃cs:Array Value,v= .agg cs/\cs.size=eU l/\ML C l (fun j=>cs[j]?) 0:=by
 have h1:=h.1.resolve_right (by simp)
 have h2:=h.2.1.resolve_right (by simp)
 have h3:=h.2.2
 cases v<;>simp[fe,b9] at h1
 rename_i cs
 simp only[Value.cells,wid] at h2
 simp only[M,Value.cells] at h3
 exact⟨cs,rfl,h2,h3⟩
theorem eM{C:Ctx}{a:AV}{v:Value}(ha:b9 a=false)(hv:fe v=false)(h:M C a (fun _=>some v) 0)(hI:Inv C):Rel C a v:=by
 have hw:wid a=1:=by cases a<;>simp_all[b9,wid]
 have hc:=gN hv
 refine⟨.inl (by rw[ha,hv]), .inl (by rw[hc,hw];rfl),jS hI (fun j hj=>?_) h⟩
 obtain rfl:j=0:=by omega
 simp[hc]
theorem CO{C:Ctx}: ∀(l:List AV) (k z:Nat) (s:Src) (o:Nat),k<l.length->MR C l z s o->M C (nth l k) s (o+k*z)
 |[],_,_,_,_,h,_=>by simp at h
 |a::l,0,z,s,o,_,h=>by simp only[MR] at h;simpa[nth] using h.1
 |a::l,k+1,z,s,o,hk,h=>by
  simp only[MR] at h
  have:=CO l k z s (o+z) (by simpa using hk) h.2
  simp only[nth]
  rwa [show o+(k+1)*z=o+z+k*z by rw[Nat.add_mul];omega]
theorem oc{P:Program}: ∀(l:List AV) (k:Nat) (T:TypeId),k<l.length->bM P l T->bG P (nth l k) T
 |[],_,_,h,_=>by simp at h
 |a::l,0,T,_,h=>by simp only[bM] at h;simpa[nth] using h.1
 |a::l,k+1,T,hk,h=>by
  simp only[bM] at h
  simpa[nth] using oc l k T (by simpa using hk) h.2
theorem ur: ∀(l:List AV) (j:Nat),j<l.length->dM l=true->cZ (nth l j)=true
 |[],_,h,_=>by simp at h
 |a::l,0,_,h=>by
  simp only[dM,aa3] at h
  exact h.1
 |a::l,j+1,hj,h=>by
  simp only[dM,aa3] at h
  simpa[nth] using ur l j (by simpa using hj) h.2
theorem xU: ∀(p:List Nat) (a:AV),nr a p=true->cZ a=true->cZ (nb a p)=true
 |[],a,_,h=>by cases a<;>exact h
 |j::p, .agg l,hp,h=>by
  simp only[nr,aa3,aa2] at hp
  simp only[nb,ae]
  exact xU p (nth l j) hp.2 (ur l j hp.1 h)
 |_::_, .cP,hp,_|_::_, .lit _,hp,_|_::_, .ad _ _,hp,_|_::_, .bp _,hp,_|_::_, .ar _ _ _,hp,_
 |_::_, .ptr _ _ _ _,hp,_|_::_, .jX _ _,hp,_|_::_, .mp _,hp,_|_::_, .cK _,hp,_|_::_, .kx _ _,hp,_
 |_::_, .bQ _ _,hp,_|_::_, .jq _ _,hp,_|_::_, .jJ _ _ _ _,hp,_=>by simp[nr] at hp
theorem gQ{C:Ctx}: ∀{a:AV} {s:Src} {o:Nat},b9 a=false->cZ a=true->M C a s o->∃v,s o=some v/\bm v=true
 | .cP,_,_,_,hs,_=>by simp[cZ] at hs
 | .bp _,_,_,_,hs,_=>by simp[cZ] at hs
 | .agg _,_,_,ha,_,_=>by simp[b9] at ha
 | .lit _,_,_,_,_,h=>by simp only[M] at h;exact⟨_,h⟩
 | .ad _ _,_,_,_,_,h=>by simp only[M] at h;obtain⟨_,p,cap,h1,_⟩:=h;exact⟨_,h1,rfl⟩
 | .ar _ _ _,_,_,_,_,h=>by simp only[M] at h;obtain⟨_,v,h1,h2,_⟩:=h;exact⟨v,h1,h2⟩
 | .ptr _ _ _ _,_,_,_,_,h=>by simp only[M] at h;obtain⟨_,v,h1,h2,_⟩:=h;exact⟨v,h1,h2⟩
 | .jX _ _,_,_,_,_,h=>by simp only[M] at h;obtain⟨b,off,h1,_⟩:=h;exact⟨_,h1,rfl⟩
 | .mp _,_,_,_,_,h=>by simp only[M] at h;obtain⟨_,v,h1,h2,_⟩:=h;exact⟨v,h1,h2⟩
 | .cK _,_,_,_,_,h=>by simp only[M] at h;obtain⟨_,v,h1,h2,_⟩:=h;exact⟨v,h1,h2⟩
 | .kx _ _,_,_,_,_,h=>by simp only[M] at h;obtain⟨_,v,h1,h2,_⟩:=h;exact⟨v,h1,h2⟩
 | .bQ _ _,_,_,_,_,h=>by simp only[M] at h;obtain⟨vs,h1,_⟩:=h;exact⟨_,h1,rfl⟩
 | .jq _ _,_,_,_,_,h=>by simp only[M] at h;obtain⟨u,h1,_⟩:=h;exact⟨_,h1,rfl⟩
 | .jJ _ _ _ _,_,_,_,_,h=>by
  simp only[M] at h
  rcases h with⟨h,_⟩|⟨b,_,_,h,_⟩
  ·exact⟨_,h,rfl⟩
  ·exact⟨_,h,rfl⟩
theorem yi{C:Ctx}(hI:Inv C){T:TypeId}{b o:Nat}{a:AV}{T0:TypeId}{p:List Nat}(ht:bG C.P a T0)(hm:M C a (cellAt C.w b) o)
  (hp:nr a p=true) (hag:fF C.P T=b9 (nb a p)) (hw:wid (nb a p)=C.P.cellsOf T) (hs:(C.P.underlying T).isSome=true):
  ∃v,(loadVar T ⟨b,o+gW a p,none⟩).run C.P C.w= .ok v C.w/\Rel C (nb a p) v:=by
 obtain⟨d,hd⟩:=Option.isSome_iff_exists.1 hs
 refine nq hI hd (OR p a _ o hp hm) hag hw (fun j hj=>?_)
 have hle:=oJ p a hp
 obtain⟨v,h1,h2⟩:=D4 a T0 _ o ht hm (gW a p+j) (by omega)
 exact⟨v,by rw[←h1];simp only[cellAt];congr 2;omega,fun _=>h2⟩
theorem xe{C:Ctx}(hI:Inv C){T:TypeId}{p x:AV}{c:Bool}{vp:Value}(h:np C.P C.st T p=some (c,x))(hr:Rel C p vp):
  ∃v,(Instr.loadAt T vp).run C.P C.w= .ok v C.w/\Rel C x v:=by
 cases p<;>simp only[np] at h<;>try (simp at h;done)
 ·rename_i i k path off
  obtain⟨hi,hp⟩:=mQ hr
  have hob:=hI.obj i hi
  split at h
  ·rename_i Tb a hst
   split at h
   ·rename_i hc
    simp only[aa3,beq_iff_eq] at hc
    obtain⟨⟨⟨⟨h1,h2⟩,h3⟩,h4⟩,h5⟩:=hc
    simp only[aa5,ab1] at h
    obtain⟨_,rfl⟩:=h
    obtain⟨rfl,rfl⟩:=hp.2.1 Tb a hst
    rw[hst] at hob
    obtain⟨_,hsol,cc,e,hh,hsz,hm⟩:=hob
    obtain⟨d,hd⟩:=Option.isSome_iff_exists.1 h5
    have hM:=OR path a _ 0 h1 hm
    have:=nq hI hd (b:=(C.ι i).block) hM h3 h4 (fun j hj=>by
     have hle:=oJ path a h1
     cases hag:b9 (nb a path) with
     |false=>
      have hw1:wid (nb a path)=1:=by cases hx:nb a path<;>simp_all[b9,wid]
      obtain rfl:j=0:=by omega
      obtain⟨v,h6,h7⟩:=gQ hag (xU path a h1 hsol) hM
      exact⟨v,h6,fun _=>h7⟩
     |true=>
      have:(C.w.cell? ⟨(C.ι i).block,0+gW a path+j,none⟩)=cc[0+gW a path+j]? :=by simp[World.cell?,hh]
      rw[this,Array.getElem?_eq_getElem (by omega)]
      exact⟨_,rfl,fun e=>by cases e⟩)
    simp only[Nat.zero_add,h2] at this
    simpa[Instr.loadAt,Instr.sureAddr] using this
   ·simp at h
  ·rename_i T0 E ls hst
   split at h
   ·split at h
    ·rename_i hc
     simp only[aa3,beq_iff_eq] at hc
     obtain⟨⟨⟨h1,h2⟩,rfl⟩,h5⟩:=hc
     simp only[aa5,ab1] at h
     obtain⟨_,rfl⟩:=h
     obtain⟨hk,_,rfl⟩:=hp.2.2.2.2.2 T E ls none hst
     rw[hst] at hob
     obtain⟨_,hU,_,_,c,hh,hsz,hc⟩:=hob
     obtain⟨v,hv,hsub⟩:=hc k hk (by simp)
     obtain⟨d,hd⟩:=Option.isSome_iff_exists.1 h5
     have hcell:C.w.cell? ⟨(C.ι i).block,k,none⟩=some v:=by simp only[World.cell?,hh];exact hv
     have hv1:bm v=true/\fe v=false:=by
      rcases hsub.2 with⟨rfl,_⟩|⟨b,cap,c,rfl,_⟩<;>exact⟨rfl,rfl⟩
     refine⟨v,?_, .inl hv1.2, .inl (by rw[gN hv1.2];rfl),?_⟩
     ·simp only[Instr.loadAt,Instr.sureAddr,Sem.run_bind,Sem.run_pure,Result.andThen_ok,loadVar,kz hd,h1,Bool.false_eq_true,if_false]
      exact lC hcell
     ·rw[gN hv1.2]
      simp only[M]
      refine⟨hi,v,rfl,hv1.1,fun T' xs hx=>by rw[hst] at hx;simp[ia] at hx,fun T' E' ls' pd hx=>?_⟩
      rw[hst] at hx
      cases hx
      exact⟨hk,hsub⟩
    ·simp at h
   ·simp at h
  ·rename_i hno hno2
   split at h
   ·rename_i T0 xs hel
    split at h
    ·rename_i hc
     simp only[aa3,beq_iff_eq] at hc
     obtain⟨⟨⟨⟨h1,h2⟩,h3⟩,h4⟩,h5⟩:=hc
     simp only[aa5,ab1] at h
     obtain⟨_,rfl⟩:=h
     obtain⟨hk,rfl⟩:=hp.1 T0 xs hel
     have hrow:bM C.P xs T0/\MR C xs (C.P.cellsOf T0) (cellAt C.w (C.ι i).block) 0:=by
      cases hx:az C.st i<;>rw[hx] at hel hob<;>simp[ia] at hel
      ·obtain⟨rfl,rfl⟩:=hel
       obtain⟨g1,⟨_,g2⟩|⟨_,_,cc,_,_,_,_,g3⟩⟩:=hob
       ·subst g2;simp at hk
       ·exact⟨g1,g3⟩
      ·obtain⟨rfl,rfl⟩:=hel
       obtain⟨g1,⟨_,g2⟩|⟨_,_,g3⟩⟩:=hob
       ·subst g2;simp at hk
       ·exact⟨g1,g3⟩
     have hM:=CO xs k _ _ _ hk hrow.2
     have hT:=oc xs k T0 hk hrow.1
     obtain⟨hE,hTE⟩:=ml hI.lay cn T0 _ _ _ hT hM
     have:=yi hI hTE hE h1 h3 h4 h5
     simp only[Nat.zero_add,h2] at this
     simpa[Instr.loadAt,Instr.sureAddr] using this
    ·simp at h
   ·simp at h
 ·rename_i T0 a
  split at h
  ·rename_i hc
   simp only[aa3,beq_iff_eq] at hc
   obtain⟨⟨h3,h4⟩,h5⟩:=hc
   simp only[aa5,ab1] at h
   obtain⟨_,rfl⟩:=h
   obtain⟨b,off,rfl,hX,ht,hm⟩:=zL hr
   obtain⟨hE,hTE⟩:=ml hI.lay cn T0 _ _ _ ht hm
   have hnil: ∀y:AV,nr y []=true/\gW y []=0/\nb y []=y:=fun y=>by cases y<;>simp[nr,gW,nb]
   have:=yi hI (p:=[]) hTE hE (hnil _).1 (by rw[(hnil _).2.2];exact h3) (by rw[(hnil _).2.2];exact h4) h5
   rw[(hnil _).2.1,(hnil _).2.2,Nat.add_zero] at this
   simpa[Instr.loadAt,Instr.sureAddr] using this
  ·simp at h
end Go.Dn
