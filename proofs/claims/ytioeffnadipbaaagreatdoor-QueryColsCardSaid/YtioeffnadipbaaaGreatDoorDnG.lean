import Derived.Test.YtioeffnadipbaaaGreatDoorDnF
namespace Go.Dn
open Go
theorem gp{C:Ctx}{a:AV}{v:Value}(h:Rel C a v)(ha:bO a=false)(hj:a≠ .cK):v.cells= #[v]/\ep v=false:=by
 have h1:=h.1.resolve_right hj
 rw[ha] at h1
 exact⟨gE h1,h1⟩
theorem aH{C:Ctx}{u v:Value}(h:Rel C (.lit u) v):v=u:=by
 have h1:=gp h rfl (by simp)
 have h2:=h.2.2
 grind [M]
theorem mz{C:Ctx}{i k off:Nat}{p:List Nat}{v:Value}(h:Rel C (.ptr i k p off) v):i<C.st.length/\oZ C i k off v:=by
 have h1:=gp h rfl (by simp)
 have h2:=h.2.2
 grind [M]
theorem fy{C:Ctx}{i lo n:Nat}{v:Value}(h:Rel C (.aB i lo n) v):i<C.st.length/\kH C i lo n v:=by
 have h1:=gp h rfl (by simp)
 have h2:=h.2.2
 grind [M]
theorem sg{C:Ctx}{i:Nat}{v:Value}(h:Rel C (.mp i) v):i<C.st.length/\KE C i v:=by
 have h1:=gp h rfl (by simp)
 have h2:=h.2.2
 grind [M]
theorem Mi{C:Ctx}{T:TypeId}{a:AV}{v:Value}(h:Rel C (.iN T a) v): ∃u,v= .iface T u:=by
 have hl:=h.2.1.resolve_right (by simp)
 have ha:=h.1.resolve_right (by simp)
 have hc:=gE (v:=v) (by rw[ha];rfl)
 have hm:=h.2.2
 grind [M]
theorem zr{C:Ctx}{i:Nat}{v:Value}(h:Rel C (.de i) v):i<C.st.length/\xm C i v:=by
 have h1:=gp h rfl (by simp)
 have h2:=h.2.2
 grind [M]
theorem Nu{C:Ctx}{i:Nat}{k v:Value}(h:Rel C (.jV i k) v):i<C.st.length/\vR C i k v:=by
 have h1:=gp h rfl (by simp)
 have h2:=h.2.2
 grind [M]
theorem mm{C:Ctx}{T:TypeId}{l:List AV}{v:Value}(h:Rel C (.ad T l) v):bC C.P l T/\∃p cap,v= .slice p l.length cap/\l.length<=cap/\
  (l≠[]->∃b off,p=some ⟨b,off,none⟩/\C.X b/\MR C l (C.P.cellsOf T) (cellAt C.w b) off):=by
 have h1:=gp h rfl (by simp)
 have h2:=h.2.2
 simp only[M] at h2
 rw[h1.1] at h2
 obtain⟨hp,p,cap,hu,h3⟩:=h2
 simp at hu;subst hu
 exact⟨hp,p,cap,rfl,h3⟩
theorem yE{C:Ctx}{T:TypeId}{a:AV}{v:Value}(h:Rel C (.iY T a) v): ∃b off,v= .pointer (some ⟨b,off,none⟩)/\C.X b/\br C.P a T/\M C a (cellAt C.w b) off:=by
 have h1:=gp h rfl (by simp)
 have h2:=h.2.2
 simp only[M] at h2
 rw[h1.1] at h2
 obtain⟨b,off,hu,h3⟩:=h2
 simp at hu;subst hu
 exact⟨b,off,rfl,h3⟩
theorem z9{C:Ctx}{l:List AV}{v:Value}(h:Rel C (.aX l) v): ∃vs,v= .tuple vs/\MT C l vs.toList:=by
 have h1:=gp h rfl (by simp)
 have h2:=h.2.2
 grind [M]
theorem tE{C:Ctx}{f:FuncId}{l:List AV}{v:Value}(h:Rel C (.bq f l) v): ∃vs,v= .func (.func f) #[] vs/\MT C l vs.toList:=by
 have h1:=gp h rfl (by simp)
 have h2:=h.2.2
 grind [M]
theorem tw{C:Ctx}{l:List AV}{v:Value}(h:Rel C (.agg l) v): ∃cs:Array Value,v= .agg cs/\cs.size=eH l/\ML C l (fun j=>cs[j]?) 0:=by
 have h1:=h.1.resolve_right (by simp)
 have h2:=h.2.1.resolve_right (by simp)
 have h3:=h.2.2
 cases v<;>simp[ep,bO] at h1
 rename_i cs
 simp only[Value.cells,wid] at h2
 simp only[M,Value.cells] at h3
 exact⟨cs,rfl,h2,h3⟩
theorem dV{C:Ctx}{a:AV}{v:Value}(ha:bO a=false)(hv:ep v=false)(h:M C a (fun _=>some v) 0)(hI:Inv C):Rel C a v:=by
 have hw:wid a=1:=by cases a<;>simp_all[bO,wid]
 have hc:=gE hv
 refine⟨.inl (by rw[ha,hv]), .inl (by rw[hc,hw];rfl),jv hI (fun j hj=>?_) h⟩
 obtain rfl:j=0:=by omega
 simp[hc]
theorem Bg{C:Ctx}: ∀(l:List AV) (k z:Nat) (s:Src) (o:Nat),k<l.length->MR C l z s o->M C (nth l k) s (o+k*z)
 |[],_,_,_,_,h,_=>by simp at h
 |a::l,0,z,s,o,_,h=>by simp only[MR] at h;simpa[nth] using h.1
 |a::l,k+1,z,s,o,hk,h=>by
  simp only[MR] at h
  have:=Bg l k z s (o+z) (by simpa using hk) h.2
  simp only[nth]
  rwa [show o+(k+1)*z=o+z+k*z by rw[Nat.add_mul];omega]
theorem nF{P:Program}: ∀(l:List AV) (k:Nat) (T:TypeId),k<l.length->bC P l T->br P (nth l k) T
 |[],_,_,h,_=>by simp at h
 |a::l,0,T,_,h=>by simp only[bC] at h;simpa[nth] using h.1
 |a::l,k+1,T,hk,h=>by
  simp only[bC] at h
  simpa[nth] using nF l k T (by simpa using hk) h.2
theorem uZ: ∀(l:List AV) (j:Nat),j<l.length->dA l=true->cQ (nth l j)=true
 |[],_,h,_=>by simp at h
 |a::l,0,_,h=>by
  simp only[dA,aa1] at h
  exact h.1
 |a::l,j+1,hj,h=>by
  simp only[dA,aa1] at h
  simpa[nth] using uZ l j (by simpa using hj) h.2
theorem xt: ∀(p:List Nat) (a:AV),mL a p=true->cQ a=true->cQ (lT a p)=true
 |[],a,_,h=>by cases a<;>exact h
 |j::p, .agg l,hp,h=>by
  simp only[mL,aa1,aa0] at hp
  simp only[lT,af]
  exact xt p (nth l j) hp.2 (uZ l j hp.1 h)
 |_::_, .cK,hp,_|_::_, .lit _,hp,_|_::_, .ad _ _,hp,_|_::_, .aX _,hp,_|_::_, .aB _ _ _,hp,_
 |_::_, .ptr _ _ _ _,hp,_|_::_, .iY _ _,hp,_|_::_, .mp _,hp,_|_::_, .de _,hp,_|_::_, .jV _ _,hp,_
 |_::_, .bq _ _,hp,_|_::_, .iN _ _,hp,_|_::_, .fJ _ _ _ _,hp,_=>by simp[mL] at hp
theorem gF{C:Ctx}: ∀{a:AV} {s:Src} {o:Nat},bO a=false->cQ a=true->M C a s o->∃v,s o=some v/\a9 v=true
 | .cK,_,_,_,hs,_=>by simp[cQ] at hs
 | .aX _,_,_,_,hs,_=>by simp[cQ] at hs
 | .agg _,_,_,ha,_,_=>by simp[bO] at ha
 | .lit _,_,_,_,_,h=>by simp only[M] at h;exact⟨_,h⟩
 | .ad _ _,_,_,_,_,h=>by simp only[M] at h;obtain⟨_,p,cap,h1,_⟩:=h;exact⟨_,h1,rfl⟩
 | .aB _ _ _,_,_,_,_,h=>by simp only[M] at h;obtain⟨_,v,h1,h2,_⟩:=h;exact⟨v,h1,h2⟩
 | .ptr _ _ _ _,_,_,_,_,h=>by simp only[M] at h;obtain⟨_,v,h1,h2,_⟩:=h;exact⟨v,h1,h2⟩
 | .iY _ _,_,_,_,_,h=>by simp only[M] at h;obtain⟨b,off,h1,_⟩:=h;exact⟨_,h1,rfl⟩
 | .mp _,_,_,_,_,h=>by simp only[M] at h;obtain⟨_,v,h1,h2,_⟩:=h;exact⟨v,h1,h2⟩
 | .de _,_,_,_,_,h=>by simp only[M] at h;obtain⟨_,v,h1,h2,_⟩:=h;exact⟨v,h1,h2⟩
 | .jV _ _,_,_,_,_,h=>by simp only[M] at h;obtain⟨_,v,h1,h2,_⟩:=h;exact⟨v,h1,h2⟩
 | .bq _ _,_,_,_,_,h=>by simp only[M] at h;obtain⟨vs,h1,_⟩:=h;exact⟨_,h1,rfl⟩
 | .iN _ _,_,_,_,_,h=>by simp only[M] at h;obtain⟨u,h1,_⟩:=h;exact⟨_,h1,rfl⟩
 | .fJ _ _ _ _,_,_,_,_,h=>by
  simp only[M] at h
  obtain⟨b,_,_,h,_⟩:=h
  exact⟨_,h,rfl⟩
theorem x9{C:Ctx}(hI:Inv C){T:TypeId}{b o:Nat}{a:AV}{T0:TypeId}{p:List Nat}(ht:br C.P a T0)(hm:M C a (cellAt C.w b) o)
  (hp:mL a p=true) (hag:dK C.P T=bO (lT a p)) (hw:wid (lT a p)=C.P.cellsOf T) (hs:(C.P.underlying T).isSome=true):
  ∃v,(loadVar T ⟨b,o+gH a p,none⟩).run C.P C.w= .ok v C.w/\Rel C (lT a p) v:=by
 obtain⟨d,hd⟩:=Option.isSome_iff_exists.1 hs
 refine mM hI hd (LN p a _ o hp hm) hag hw (fun j hj=>?_)
 have hle:=oH p a hp
 obtain⟨v,h1,h2⟩:=Cz a T0 _ o ht hm (gH a p+j) (by omega)
 grind [cellAt]
theorem uS{C:Ctx}(hI:Inv C){T:TypeId}{p x:AV}{c:Bool}{vp:Value}(h:mG C.P C.st T p=some (c,x))(hr:Rel C p vp):
  ∃v,(Instr.loadAt T vp).run C.P C.w= .ok v C.w/\Rel C x v:=by
 cases p<;>simp only[mG] at h<;>try (simp at h;done)
 ·rename_i i k path off
  obtain⟨hi,hp⟩:=mz hr
  have hob:=hI.obj i hi
  split at h
  ·rename_i Tb a hst
   split at h
   ·rename_i hc
    simp only[aa1,beq_iff_eq] at hc
    obtain⟨⟨⟨⟨h1,h2⟩,h3⟩,h4⟩,h5⟩:=hc
    simp only[aa3,aa9] at h
    obtain⟨_,rfl⟩:=h
    obtain⟨rfl,rfl⟩:=hp.2.1 Tb a hst
    rw[hst] at hob
    obtain⟨_,hsol,cc,e,hh,hsz,hm⟩:=hob
    obtain⟨d,hd⟩:=Option.isSome_iff_exists.1 h5
    have hM:=LN path a _ 0 h1 hm
    have:=mM hI hd (b:=(C.ι i).block) hM h3 h4 (fun j hj=>by
     have hle:=oH path a h1
     cases hag:bO (lT a path) with
     |false=>
      have hw1:wid (lT a path)=1:=by cases hx:lT a path<;>simp_all[bO,wid]
      obtain rfl:j=0:=by omega
      obtain⟨v,h6,h7⟩:=gF hag (xt path a h1 hsol) hM
      exact⟨v,h6,fun _=>h7⟩
     |true=>
      have:(C.w.cell? ⟨(C.ι i).block,0+gH a path+j,none⟩)=cc[0+gH a path+j]? :=by simp[World.cell?,hh]
      rw[this,Array.getElem?_eq_getElem (by omega)]
      exact⟨_,rfl,fun e=>by cases e⟩)
    simp only[Nat.zero_add,h2] at this
    simpa[Instr.loadAt,Instr.sureAddr] using this
   ·simp at h
  ·rename_i T0 E ls hst
   split at h
   ·split at h
    ·rename_i hc
     simp only[aa1,beq_iff_eq] at hc
     obtain⟨⟨⟨h1,h2⟩,rfl⟩,h5⟩:=hc
     simp only[aa3,aa9] at h
     obtain⟨_,rfl⟩:=h
     obtain⟨hk,_,rfl⟩:=hp.2.2.2.2.2 T E ls none hst
     rw[hst] at hob
     obtain⟨_,hU,_,_,c,hh,hsz,hc⟩:=hob
     obtain⟨v,hv,hsub⟩:=hc k hk (by simp)
     obtain⟨d,hd⟩:=Option.isSome_iff_exists.1 h5
     have hcell:C.w.cell? ⟨(C.ι i).block,k,none⟩=some v:=by simp only[World.cell?,hh];exact hv
     have hv1:a9 v=true/\ep v=false:=by
      rcases hsub.2 with⟨rfl,_⟩|⟨b,cap,c,rfl,_⟩<;>exact⟨rfl,rfl⟩
     refine⟨v,?_, .inl hv1.2, .inl (by rw[gE hv1.2];rfl),?_⟩
     ·simp only[Instr.loadAt,Instr.sureAddr,Sem.run_bind,Sem.run_pure,Result.andThen_ok,loadVar,iu hd,h1,Bool.false_eq_true,if_false]
      exact jr hcell
     ·rw[gE hv1.2]
      simp only[M]
      refine⟨hi,v,rfl,hv1.1,fun T' xs hx=>by rw[hst] at hx;simp[gC] at hx,fun T' E' ls' pd hx=>?_⟩
      rw[hst] at hx
      cases hx
      exact⟨hk,hsub⟩
    ·simp at h
   ·simp at h
  ·rename_i hno hno2
   split at h
   ·rename_i T0 xs hel
    split at h
    ·rename_i hc
     simp only[aa1,beq_iff_eq] at hc
     obtain⟨⟨⟨⟨h1,h2⟩,h3⟩,h4⟩,h5⟩:=hc
     simp only[aa3,aa9] at h
     obtain⟨_,rfl⟩:=h
     obtain⟨hk,rfl⟩:=hp.1 T0 xs hel
     have hrow:bC C.P xs T0/\MR C xs (C.P.cellsOf T0) (cellAt C.w (C.ι i).block) 0:=by
      cases hx:an C.st i<;>rw[hx] at hel hob<;>simp[gC] at hel
      ·obtain⟨rfl,rfl⟩:=hel
       obtain⟨g1,⟨_,g2⟩|⟨_,_,cc,_,_,_,_,g3⟩⟩:=hob
       ·subst g2;simp at hk
       ·exact⟨g1,g3⟩
      ·obtain⟨rfl,rfl⟩:=hel
       obtain⟨g1,⟨_,g2⟩|⟨_,_,g3⟩⟩:=hob
       ·subst g2;simp at hk
       ·exact⟨g1,g3⟩
     have hM:=Bg xs k _ _ _ hk hrow.2
     have hT:=nF xs k T0 hk hrow.1
     obtain⟨hE,hTE⟩:=lN hI.lay bX T0 _ _ _ hT hM
     have:=x9 hI hTE hE h1 h3 h4 h5
     simp only[Nat.zero_add,h2] at this
     simpa[Instr.loadAt,Instr.sureAddr] using this
    ·simp at h
   ·simp at h
 ·rename_i T0 a
  split at h
  ·rename_i hc
   simp only[aa1,beq_iff_eq] at hc
   obtain⟨⟨h3,h4⟩,h5⟩:=hc
   simp only[aa3,aa9] at h
   obtain⟨_,rfl⟩:=h
   obtain⟨b,off,rfl,hX,ht,hm⟩:=yE hr
   obtain⟨hE,hTE⟩:=lN hI.lay bX T0 _ _ _ ht hm
   have hnil: ∀y:AV,mL y []=true/\gH y []=0/\lT y []=y:=fun y=>by cases y<;>simp[mL,gH,lT]
   have:=x9 hI (p:=[]) hTE hE (hnil _).1 (by rw[(hnil _).2.2];exact h3) (by rw[(hnil _).2.2];exact h4) h5
   rw[(hnil _).2.1,(hnil _).2.2,Nat.add_zero] at this
   simpa[Instr.loadAt,Instr.sureAddr] using this
  ·simp at h
end Go.Dn
