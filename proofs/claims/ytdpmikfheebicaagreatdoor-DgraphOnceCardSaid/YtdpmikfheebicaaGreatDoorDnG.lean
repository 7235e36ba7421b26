import Derived.Test.YtdpmikfheebicaaGreatDoorDnF
namespace Go.Dn
open Go
theorem fG{C:Ctx}{a:AV}{v:Value}(h:Rel C a v)(ha:bH a=false)(hj:a≠ .cf):v.cells= #[v]/\ej v=false:=by
 have h1:=h.1.resolve_right hj
 rw[ha] at h1
 exact⟨fR h1,h1⟩
theorem aL{C:Ctx}{u v:Value}(h:Rel C (.lit u) v):v=u:=by
 have h1:=fG h rfl (by simp)
 have h2:=h.2.2
 simp only[M] at h2
 rw[h1.1] at h2
 simpa using h2.1
theorem lV{C:Ctx}{i k off:Nat}{p:List Nat}{v:Value}(h:Rel C (.ptr i k p off) v):i<C.st.length/\oI C i k off v:=by
 have h1:=fG h rfl (by simp)
 have h2:=h.2.2
 simp only[M] at h2
 rw[h1.1] at h2
 obtain⟨hi,u,hu,_,hp⟩:=h2
 simp at hu;subst hu
 exact⟨hi,hp⟩
theorem fQ{C:Ctx}{i lo n:Nat}{v:Value}(h:Rel C (.az i lo n) v):i<C.st.length/\my C i lo n v:=by
 have h1:=fG h rfl (by simp)
 have h2:=h.2.2
 simp only[M] at h2
 rw[h1.1] at h2
 obtain⟨hi,u,hu,_,hp⟩:=h2
 simp at hu;subst hu
 exact⟨hi,hp⟩
theorem qK{C:Ctx}{i:Nat}{v:Value}(h:Rel C (.mp i) v):i<C.st.length/\JB C i v:=by
 have h1:=fG h rfl (by simp)
 have h2:=h.2.2
 simp only[M] at h2
 rw[h1.1] at h2
 obtain⟨hi,u,hu,_,hp⟩:=h2
 simp at hu;subst hu
 exact⟨hi,hp⟩
theorem Li{C:Ctx}{T:TypeId}{a:AV}{v:Value}(h:Rel C (.iq T a) v): ∃u,v= .iface T u:=by
 have hl:=h.2.1.resolve_right (by simp)
 have ha:=h.1.resolve_right (by simp)
 have hc:=fR (v:=v) (by rw[ha];rfl)
 have hm:=h.2.2
 simp only[M] at hm
 obtain⟨u,h1,_⟩:=hm
 rw[hc] at h1
 exact⟨u,by simpa using h1⟩
theorem xl{C:Ctx}{i:Nat}{v:Value}(h:Rel C (.cx i) v):i<C.st.length/\v5 C i v:=by
 have h1:=fG h rfl (by simp)
 have h2:=h.2.2
 simp only[M] at h2
 rw[h1.1] at h2
 obtain⟨hi,u,hu,_,hp⟩:=h2
 simp at hu;subst hu
 exact⟨hi,hp⟩
theorem Le{C:Ctx}{i:Nat}{k v:Value}(h:Rel C (.jJ i k) v):i<C.st.length/\tK C i k v:=by
 have h1:=fG h rfl (by simp)
 have h2:=h.2.2
 simp only[M] at h2
 rw[h1.1] at h2
 obtain⟨hi,u,hu,_,hp⟩:=h2
 simp at hu;subst hu
 exact⟨hi,hp⟩
theorem qi{C:Ctx}{T:TypeId}{l:List AV}{v:Value}(h:Rel C (.ae T l) v):bx C.P l T/\∃p cap,v= .slice p l.length cap/\l.length<=cap/\
  (l≠[]->∃b off,p=some ⟨b,off,none⟩/\C.X b/\MR C l (C.P.cellsOf T) (cellAt C.w b) off):=by
 have h1:=fG h rfl (by simp)
 have h2:=h.2.2
 simp only[M] at h2
 rw[h1.1] at h2
 obtain⟨hp,p,cap,hu,h3⟩:=h2
 simp at hu;subst hu
 exact⟨hp,p,cap,rfl,h3⟩
theorem xQ{C:Ctx}{T:TypeId}{a:AV}{v:Value}(h:Rel C (.jc T a) v): ∃b off,v= .pointer (some ⟨b,off,none⟩)/\C.X b/\bq C.P a T/\M C a (cellAt C.w b) off:=by
 have h1:=fG h rfl (by simp)
 have h2:=h.2.2
 simp only[M] at h2
 rw[h1.1] at h2
 obtain⟨b,off,hu,h3⟩:=h2
 simp at hu;subst hu
 exact⟨b,off,rfl,h3⟩
theorem xz{C:Ctx}{l:List AV}{v:Value}(h:Rel C (.bp l) v): ∃vs,v= .tuple vs/\MT C l vs.toList:=by
 have h1:=fG h rfl (by simp)
 have h2:=h.2.2
 simp only[M] at h2
 rw[h1.1] at h2
 obtain⟨vs,hu,h3⟩:=h2
 simp at hu;subst hu
 exact⟨vs,rfl,h3⟩
theorem sw{C:Ctx}{f:FuncId}{l:List AV}{v:Value}(h:Rel C (.bP f l) v): ∃vs,v= .func (.func f) #[] vs/\MT C l vs.toList:=by
 have h1:=fG h rfl (by simp)
 have h2:=h.2.2
 simp only[M] at h2
 rw[h1.1] at h2
 obtain⟨vs,hu,h3⟩:=h2
 simp at hu;subst hu
 exact⟨vs,rfl,h3⟩
theorem EM{C:Ctx}{l:List AV}{v:Value}(h:Rel C (.agg l) v): ∃cs:Array Value,v= .agg cs/\cs.size=eF l/\ML C l (fun j=>cs[j]?) 0:=by
 have h1:=h.1.resolve_right (by simp)
 have h2:=h.2.1.resolve_right (by simp)
 have h3:=h.2.2
 cases v<;>simp[ej,bH] at h1
 rename_i cs
 simp only[Value.cells,wid] at h2
 simp only[M,Value.cells] at h3
 exact⟨cs,rfl,h2,h3⟩
theorem dT{C:Ctx}{a:AV}{v:Value}(ha:bH a=false)(hv:ej v=false)(h:M C a (fun _=>some v) 0)(hI:Inv C):Rel C a v:=by
 have hw:wid a=1:=by cases a<;>simp_all[bH,wid]
 have hc:=fR hv
 refine⟨.inl (by rw[ha,hv]), .inl (by rw[hc,hw];rfl),jq hI (fun j hj=>?_) h⟩
 obtain rfl:j=0:=by omega
 simp[hc]
theorem z7{C:Ctx}: ∀(l:List AV) (k z:Nat) (s:Src) (o:Nat),k<l.length->MR C l z s o->M C (nth l k) s (o+k*z)
 |[],_,_,_,_,h,_=>by simp at h
 |a::l,0,z,s,o,_,h=>by simp only[MR] at h;simpa[nth] using h.1
 |a::l,k+1,z,s,o,hk,h=>by
  simp only[MR] at h
  have:=z7 l k z s (o+z) (by simpa using hk) h.2
  simp only[nth]
  rwa [show o+(k+1)*z=o+z+k*z by rw[Nat.add_mul];omega]
theorem mQ{P:Program}: ∀(l:List AV) (k:Nat) (T:TypeId),k<l.length->bx P l T->bq P (nth l k) T
 |[],_,_,h,_=>by simp at h
 |a::l,0,T,_,h=>by simp only[bx] at h;simpa[nth] using h.1
 |a::l,k+1,T,hk,h=>by
  simp only[bx] at h
  simpa[nth] using mQ l k T (by simpa using hk) h.2
theorem tg: ∀(l:List AV) (j:Nat),j<l.length->dG l=true->cq (nth l j)=true
 |[],_,h,_=>by simp at h
 |a::l,0,_,h=>by
  simp only[dG,aa1] at h
  exact h.1
 |a::l,j+1,hj,h=>by
  simp only[dG,aa1] at h
  simpa[nth] using tg l j (by simpa using hj) h.2
theorem wE: ∀(p:List Nat) (a:AV),qx a p=true->cq a=true->cq (ph a p)=true
 |[],a,_,h=>by cases a<;>exact h
 |j::p, .agg l,hp,h=>by
  simp only[qx,aa1,aa0] at hp
  simp only[ph,ad]
  exact wE p (nth l j) hp.2 (tg l j hp.1 h)
 |_::_, .cf,hp,_|_::_, .lit _,hp,_|_::_, .ae _ _,hp,_|_::_, .bp _,hp,_|_::_, .az _ _ _,hp,_
 |_::_, .ptr _ _ _ _,hp,_|_::_, .jc _ _,hp,_|_::_, .mp _,hp,_|_::_, .cx _,hp,_|_::_, .jJ _ _,hp,_
 |_::_, .bP _ _,hp,_|_::_, .iq _ _,hp,_|_::_, .iZ _ _ _ _,hp,_=>by simp[qx] at hp
theorem fN{C:Ctx}: ∀{a:AV} {s:Src} {o:Nat},bH a=false->cq a=true->M C a s o->∃v,s o=some v/\a0 v=true
 | .cf,_,_,_,hs,_=>by simp[cq] at hs
 | .bp _,_,_,_,hs,_=>by simp[cq] at hs
 | .agg _,_,_,ha,_,_=>by simp[bH] at ha
 | .lit _,_,_,_,_,h=>by simp only[M] at h;exact⟨_,h⟩
 | .ae _ _,_,_,_,_,h=>by simp only[M] at h;obtain⟨_,p,cap,h1,_⟩:=h;exact⟨_,h1,rfl⟩
 | .az _ _ _,_,_,_,_,h=>by simp only[M] at h;obtain⟨_,v,h1,h2,_⟩:=h;exact⟨v,h1,h2⟩
 | .ptr _ _ _ _,_,_,_,_,h=>by simp only[M] at h;obtain⟨_,v,h1,h2,_⟩:=h;exact⟨v,h1,h2⟩
 | .jc _ _,_,_,_,_,h=>by simp only[M] at h;obtain⟨b,off,h1,_⟩:=h;exact⟨_,h1,rfl⟩
 | .mp _,_,_,_,_,h=>by simp only[M] at h;obtain⟨_,v,h1,h2,_⟩:=h;exact⟨v,h1,h2⟩
 | .cx _,_,_,_,_,h=>by simp only[M] at h;obtain⟨_,v,h1,h2,_⟩:=h;exact⟨v,h1,h2⟩
 | .jJ _ _,_,_,_,_,h=>by simp only[M] at h;obtain⟨_,v,h1,h2,_⟩:=h;exact⟨v,h1,h2⟩
 | .bP _ _,_,_,_,_,h=>by simp only[M] at h;obtain⟨vs,h1,_⟩:=h;exact⟨_,h1,rfl⟩
 | .iq _ _,_,_,_,_,h=>by simp only[M] at h;obtain⟨u,h1,_⟩:=h;exact⟨_,h1,rfl⟩
 | .iZ _ _ _ _,_,_,_,_,h=>by
  simp only[M] at h
  rcases h with⟨h,_⟩|⟨b,_,_,h,_⟩
  ·exact⟨_,h,rfl⟩
  ·exact⟨_,h,rfl⟩
theorem wF{C:Ctx}(hI:Inv C){T:TypeId}{b o:Nat}{a:AV}{T0:TypeId}{p:List Nat}(ht:bq C.P a T0)(hm:M C a (cellAt C.w b) o)
  (hp:qx a p=true) (hag:jh C.P T=bH (ph a p)) (hw:wid (ph a p)=C.P.cellsOf T) (hs:(C.P.underlying T).isSome=true):
  ∃v,(loadVar T ⟨b,o+im a p,none⟩).run C.P C.w= .ok v C.w/\Rel C (ph a p) v:=by
 obtain⟨d,hd⟩:=Option.isSome_iff_exists.1 hs
 refine mj hI hd (Nh p a _ o hp hm) hag hw (fun j hj=>?_)
 have hle:=nN p a hp
 obtain⟨v,h1,h2⟩:=CH a T0 _ o ht hm (im a p+j) (by omega)
 exact⟨v,by rw[←h1];simp only[cellAt];congr 2;omega,fun _=>h2⟩
theorem uP{C:Ctx}(hI:Inv C){T:TypeId}{p x:AV}{c:Bool}{vp:Value}(h:mV C.P C.st T p=some (c,x))(hr:Rel C p vp):
  ∃v,(Instr.loadAt T vp).run C.P C.w= .ok v C.w/\Rel C x v:=by
 cases p<;>simp only[mV] at h<;>try (simp at h;done)
 ·rename_i i k path off
  obtain⟨hi,hp⟩:=lV hr
  have hob:=hI.obj i hi
  split at h
  ·rename_i Tb a hst
   split at h
   ·rename_i hc
    simp only[aa1,beq_iff_eq] at hc
    obtain⟨⟨⟨⟨h1,h2⟩,h3⟩,h4⟩,h5⟩:=hc
    simp only[aa3,aa9] at h
    obtain⟨_,rfl⟩:=h
    obtain⟨rfl,rfl⟩:=hp.2.1 Tb a hst
    rw[hst] at hob
    obtain⟨_,hsol,cc,e,hh,hsz,hm⟩:=hob
    obtain⟨d,hd⟩:=Option.isSome_iff_exists.1 h5
    have hM:=Nh path a _ 0 h1 hm
    have:=mj hI hd (b:=(C.ι i).block) hM h3 h4 (fun j hj=>by
     have hle:=nN path a h1
     cases hag:bH (ph a path) with
     |false=>
      have hw1:wid (ph a path)=1:=by cases hx:ph a path<;>simp_all[bH,wid]
      obtain rfl:j=0:=by omega
      obtain⟨v,h6,h7⟩:=fN hag (wE path a h1 hsol) hM
      exact⟨v,h6,fun _=>h7⟩
     |true=>
      have:(C.w.cell? ⟨(C.ι i).block,0+im a path+j,none⟩)=cc[0+im a path+j]? :=by simp[World.cell?,hh]
      rw[this,Array.getElem?_eq_getElem (by omega)]
      exact⟨_,rfl,fun e=>by cases e⟩)
    simp only[Nat.zero_add,h2] at this
    simpa[Instr.loadAt,Instr.sureAddr] using this
   ·simp at h
  ·rename_i T0 E ls hst
   split at h
   ·split at h
    ·rename_i hc
     simp only[aa1,beq_iff_eq] at hc
     obtain⟨⟨⟨h1,h2⟩,rfl⟩,h5⟩:=hc
     simp only[aa3,aa9] at h
     obtain⟨_,rfl⟩:=h
     obtain⟨hk,_,rfl⟩:=hp.2.2.2.2.2 T E ls none hst
     rw[hst] at hob
     obtain⟨_,hU,_,_,c,hh,hsz,hc⟩:=hob
     obtain⟨v,hv,hsub⟩:=hc k hk (by simp)
     obtain⟨d,hd⟩:=Option.isSome_iff_exists.1 h5
     have hcell:C.w.cell? ⟨(C.ι i).block,k,none⟩=some v:=by simp only[World.cell?,hh];exact hv
     have hv1:a0 v=true/\ej v=false:=by
      rcases hsub.2 with⟨rfl,_⟩|⟨b,cap,c,rfl,_⟩<;>exact⟨rfl,rfl⟩
     refine⟨v,?_, .inl hv1.2, .inl (by rw[fR hv1.2];rfl),?_⟩
     ·simp only[Instr.loadAt,Instr.sureAddr,Sem.run_bind,Sem.run_pure,Result.andThen_ok,loadVar,jP hd,h1,Bool.false_eq_true,if_false]
      exact ko hcell
     ·rw[fR hv1.2]
      simp only[M]
      refine⟨hi,v,rfl,hv1.1,fun T' xs hx=>by rw[hst] at hx;simp[gb] at hx,fun T' E' ls' pd hx=>?_⟩
      rw[hst] at hx
      cases hx
      exact⟨hk,hsub⟩
    ·simp at h
   ·simp at h
  ·rename_i hno hno2
   split at h
   ·rename_i T0 xs hel
    split at h
    ·rename_i hc
     simp only[aa1,beq_iff_eq] at hc
     obtain⟨⟨⟨⟨h1,h2⟩,h3⟩,h4⟩,h5⟩:=hc
     simp only[aa3,aa9] at h
     obtain⟨_,rfl⟩:=h
     obtain⟨hk,rfl⟩:=hp.1 T0 xs hel
     have hrow:bx C.P xs T0/\MR C xs (C.P.cellsOf T0) (cellAt C.w (C.ι i).block) 0:=by
      cases hx:ar C.st i<;>rw[hx] at hel hob<;>simp[gb] at hel
      ·obtain⟨rfl,rfl⟩:=hel
       obtain⟨g1,⟨_,g2⟩|⟨_,_,cc,_,_,_,_,g3⟩⟩:=hob
       ·subst g2;simp at hk
       ·exact⟨g1,g3⟩
      ·obtain⟨rfl,rfl⟩:=hel
       obtain⟨g1,⟨_,g2⟩|⟨_,_,g3⟩⟩:=hob
       ·subst g2;simp at hk
       ·exact⟨g1,g3⟩
     have hM:=z7 xs k _ _ _ hk hrow.2
     have hT:=mQ xs k T0 hk hrow.1
     obtain⟨hE,hTE⟩:=lA hI.lay bR T0 _ _ _ hT hM
     have:=wF hI hTE hE h1 h3 h4 h5
     simp only[Nat.zero_add,h2] at this
     simpa[Instr.loadAt,Instr.sureAddr] using this
    ·simp at h
   ·simp at h
 ·rename_i T0 a
  split at h
  ·rename_i hc
   simp only[aa1,beq_iff_eq] at hc
   obtain⟨⟨h3,h4⟩,h5⟩:=hc
   simp only[aa3,aa9] at h
   obtain⟨_,rfl⟩:=h
   obtain⟨b,off,rfl,hX,ht,hm⟩:=xQ hr
   obtain⟨hE,hTE⟩:=lA hI.lay bR T0 _ _ _ ht hm
   have hnil: ∀y:AV,qx y []=true/\im y []=0/\ph y []=y:=fun y=>by cases y<;>simp[qx,im,ph]
   have:=wF hI (p:=[]) hTE hE (hnil _).1 (by rw[(hnil _).2.2];exact h3) (by rw[(hnil _).2.2];exact h4) h5
   rw[(hnil _).2.1,(hnil _).2.2,Nat.add_zero] at this
   simpa[Instr.loadAt,Instr.sureAddr] using this
  ·simp at h
end Go.Dn
