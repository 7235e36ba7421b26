import Derived.Test.YthaiinlfnommnaaGreatDoorDnU
namespace Go.Dn
open Go
theorem kI: ∀(l:List Nat) (i:Nat),jk i l=true↔i∈l
 |[],i=>by simp[jk]
 |j::l,i=>by simp[jk,kI l i,Nat.beq_eq]
theorem kX{ids:List Nat}: ∀{l:List Nat},CD ids l=true->∀i,i∈l->i∈ids
 |[],_,i,h=>by simp at h
 |j::l,h,i,hi=>by
  simp only[CD,aa2] at h
  rcases List.mem_cons.1 hi with rfl|hi
  ·exact(kI _ _).1 h.1
  ·exact kX h.2 i hi
theorem mj{n:Nat}: ∀{l:List Nat},Fm n l=true->∀i,i∈l->i<n
 |[],_,i,h=>by simp at h
 |j::l,h,i,hi=>by
  simp only[Fm,aa2,aa1] at h
  rcases List.mem_cons.1 hi with rfl|hi
  ·exact h.1
  ·exact mj h.2 i hi
theorem lz: ∀{l:List Nat},zr l=true->l.Nodup
 |[],_=>by simp
 |j::l,h=>by
  simp only[zr,aa2,Bool.not_eq_true'] at h
  rw[List.nodup_cons]
  exact⟨fun hm=>by rw[(kI _ _).2 hm] at h;simp at h,lz h.2⟩
theorem qB: ∀{ids:List Nat} {i n j:Nat},jL i ids n=some j->∃k,j=n+k/\ids[k]? =some i
 |[],_,_,_,h=>by simp[jL] at h
 | a::ids,i,n,j,h=>by
  simp only[jL] at h
  cases hb:Nat.beq i a with
  |true=>
   rw[hb] at h
   simp only[aa8,aa4] at h
   exact⟨0,by omega,by simp[Nat.eq_of_beq_eq_true hb]⟩
  |false=>
   rw[hb] at h
   simp only[aa6] at h
   obtain⟨k,h1,h2⟩:=qB h
   exact⟨k+1,by omega,by simpa using h2⟩
theorem oc: ∀{ids:List Nat} {i:Nat} (n:Nat),i∈ids->∃j,jL i ids n=some j
 |[],_,_,h=>by simp at h
 | a::ids,i,n,h=>by
  simp only[jL]
  cases hb:Nat.beq i a with
  |true=>exact⟨n,rfl⟩
  |false=>
   simp only[aa6]
   rcases List.mem_cons.1 h with rfl|h
   ·rw[Nat.beq_refl] at hb;cases hb
   ·exact oc (n+1) h
theorem sb{st:List Obj}: ∀{ids:List Nat} {k i:Nat},ids[k]? =some i->ax (gR st ids) k=ax st i
 |[],_,_,h=>by simp at h
 |a::ids,0,i,h=>by simp at h;subst h;rfl
 |a::ids,k+1,i,h=>by simp only[gR,ax];exact sb (by simpa using h)
theorem kg{st:List Obj}: ∀ids:List Nat,(gR st ids).length=ids.length
 |[]=>rfl
 |a::ids=>by simp[gR,kg ids]
theorem iL(ρ:Nat->Option Nat): ∀l:List Obj,(gq ρ l).length=l.length
 |[]=>rfl
 |a::l=>by simp[gq,iL ρ l]
theorem oU(ρ:Nat->Option Nat): ∀(l:List Obj) (k:Nat),ax (gq ρ l) k=fh ρ (ax l k)
 |[],_=>rfl
 |a::l,0=>rfl
 |a::l,k+1=>by simp only[gq,ax];exact oU ρ l k
theorem pZ{st:List Obj}: ∀{ids:List Nat} {i j:Nat},i∈ids->j∈x0 (ax st i)->j∈wD st ids
 |[],_,_,h,_=>by simp at h
 |a::ids,i,j,h,hj=>by
  simp only[wD,List.mem_append]
  rcases List.mem_cons.1 h with rfl|h
  ·exact .inl hj
  ·exact .inr (pZ h hj)
theorem An(ρ:Nat->Option Nat)(o:Obj):gY (fh ρ o)=gY o:=by cases o<;>rfl
theorem Cp: ∀{n i:Nat},i<n->i∈upto n
 |0,_,h=>by omega
 |n+1,i,h=>by
  simp only[upto,List.mem_append,List.mem_singleton]
  rcases Nat.lt_or_ge i n with h'|h'
  ·exact .inl (Cp h')
  ·exact .inr (by omega)
theorem qp{ids:List Nat}: ∀{l:List Nat},tB ids l=true->∀i,i∈l->jL i ids 0=some i
 |[],_,_,h=>by simp at h
 | j::l,h,i,hi=>by
  simp only[tB,aa2] at h
  rcases List.mem_cons.1 hi with rfl|hi
  ·have:=h.1
   split at this
   ·rename_i k hk;rw[hk,Nat.eq_of_beq_eq_true this]
   ·cases this
  ·exact qp h.2 i hi
def Ctx.by(C:Ctx)(ids:List Nat):Ctx:={C with st:=gq (fun i=>jL i ids 0) (gR C.st ids),ι:=fun k=>C.ι (ids.getD k 0)}
theorem mI{C:Ctx}{ids:List Nat}{k i:Nat}(h:ids[k]? =some i):ax (C.by ids).st k=fh (fun i=>jL i ids 0) (ax C.st i)/\(C.by ids).ι k=C.ι i:=by
 refine⟨?_,?_⟩
 ·simp only[Ctx.by];rw[oU,sb h]
 ·simp only[Ctx.by];rw[List.getD_eq_getElem?_getD,h];rfl
theorem nV{C:Ctx}{ids:List Nat}:(C.by ids).st.length=ids.length:=by simp[Ctx.by,iL,kg]
theorem ma{C:Ctx}{ids:List Nat}{i j:Nat}(h:jL i ids 0=some j):b9 C (C.by ids) i j:=by
 obtain⟨k,hk,hi⟩:=qB h
 obtain rfl:j=k:=by omega
 obtain⟨h1,h2⟩:=mI (C:=C) hi
 refine⟨by rw[nV];exact(List.getElem?_eq_some_iff.1 hi).1,fun T xs hx=>?_,fun T a hx=>?_,fun K V es hx=>?_,fun r hx=>?_,fun m n ks hx=>?_,fun t hx=>?_,fun s p hx=>?_,fun K V ks vs met hx=>?_,fun T E ls pd hx=>?_⟩
 ·rw[h1,An] at hx;exact⟨xs,hx,h2,Nat.le_refl _⟩
 ·rw[h1] at hx
  cases ho:ax C.st i<;>rw[ho] at hx<;>simp[fh] at hx
  obtain⟨rfl,_⟩:=hx
  exact⟨_,rfl,h2⟩
 ·rw[h1] at hx
  cases ho:ax C.st i<;>rw[ho] at hx<;>simp[fh] at hx
  obtain⟨rfl,rfl,rfl⟩:=hx
  exact⟨_,rfl,h2,fun ents clock hh=>⟨ents,clock,hh,dV.refl _ _⟩⟩
 ·rw[h1] at hx
  cases ho:ax C.st i<;>rw[ho] at hx<;>simp[fh] at hx
  exact⟨_,rfl,h2⟩
 ·rw[h1] at hx
  cases ho:ax C.st i<;>rw[ho] at hx<;>simp[fh] at hx
  obtain⟨_,rfl,_⟩:=hx
  exact⟨_,_,rfl,h2⟩
 ·rw[h1] at hx
  cases ho:ax C.st i<;>rw[ho] at hx<;>simp[fh] at hx
  exact⟨_,rfl,h2⟩
 ·rw[h1] at hx
  cases ho:ax C.st i<;>rw[ho] at hx<;>simp[fh] at hx
  obtain⟨rfl,_⟩:=hx
  exact⟨_,rfl,h2⟩
 ·rw[h1] at hx
  cases ho:ax C.st i<;>rw[ho] at hx<;>simp[fh] at hx
  obtain⟨rfl,rfl,rfl,rfl,_⟩:=hx
  exact⟨_,rfl,h2⟩
 ·rw[h1] at hx
  cases ho:ax C.st i<;>rw[ho] at hx<;>simp[fh] at hx
  obtain⟨rfl,rfl,rfl,_⟩:=hx
  exact⟨_,_,rfl,h2,rfl,fun _ _ _ h=>h⟩
theorem vd{C:Ctx}(hI:Inv C){base:Nat}{roots ids:List Nat}(hok:pj base C.st roots ids=true):Inv (C.by ids)/\Ext base C (C.by ids)/\(∀i,i∈roots->∃j,jL i ids 0=some j):=by
 simp only[pj,aa2] at hok
 obtain⟨⟨⟨⟨h1,h2⟩,h3⟩,h4⟩,h5⟩:=hok
 have hnd:=lz h1
 have hk:bR C (C.by ids):=⟨rfl,fun _ h=>h,fun _ _=>rfl⟩
 have hat: ∀k,k<ids.length->∃i,ids[k]? =some i/\i<C.st.length:=fun k hk=>⟨ids[k],by simp[hk],mj h2 _ (List.getElem_mem hk)⟩
 refine⟨⟨hI.lay,fun k hk'=>?_,fun k l hk' hl hkl hok hol=>?_,hI.xs,fun k hk' hok=>?_,hI.oX,hI.lO hk⟩,⟨hk,Nat.le_refl _,rfl,rfl,rfl,fun _ _ _=>rfl,fun b hb=> .inl hb,fun b hb=>?_,fun i hi=>ma (qp h3 i (Cp hi)),fun _=> .inl ⟨rfl,rfl⟩,rfl⟩,fun i hi=>oc 0 (kX h4 i hi)⟩
 ·rw[nV] at hk'
  obtain⟨i,hi,hlt⟩:=hat k hk'
  obtain⟨g1,g2⟩:=mI (C:=C) hi
  rw[g1,g2]
  have hmem:i∈ids:=List.mem_iff_getElem?.2 ⟨k,hi⟩
  refine(hI.obj i hlt).move hk hI.lay _ (fun j hj hlt'=>?_) (hI.fk i hlt) ⟨fun b ho hb=>⟨(hI.dI ⟨i,hlt,ho,hb.symm⟩).2,rfl⟩,fun _ _=>⟨Iff.rfl,fun _=>rfl⟩,dW.refl _,Nat.le_refl _,fun _ _=>rfl⟩
  obtain⟨m,hm⟩:=oc (ids:=ids) 0 (kX h5 j (pZ hmem hj))
  exact⟨m,hm,ma hm⟩
 ·rw[nV] at hk' hl
  obtain⟨i,hi,hlt⟩:=hat k hk'
  obtain⟨j,hj,hlt'⟩:=hat l hl
  obtain⟨g1,g2⟩:=mI (C:=C) hi
  obtain⟨g3,g4⟩:=mI (C:=C) hj
  rw[g1,g2,dJ] at hok
  rw[g3,g4,dJ] at hol
  rw[g2,g4]
  refine hI.tf i j hlt hlt' (fun e=>hkl ?_) hok hol
  subst e
  obtain⟨_,e1⟩:=List.getElem?_eq_some_iff.1 hi
  obtain⟨_,e2⟩:=List.getElem?_eq_some_iff.1 hj
  exact(List.getElem_inj hnd).1 (e1.trans e2.symm)
 ·rw[nV] at hk'
  obtain⟨i,hi,hlt⟩:=hat k hk'
  obtain⟨g1,g2⟩:=mI (C:=C) hi
  rw[g1,g2,dJ] at hok
  rw[g2]
  exact hI.fk i hlt hok
 ·obtain⟨k,hk',ho,hb'⟩:=hb
  rw[nV] at hk'
  obtain⟨i,hi,hlt⟩:=hat k hk'
  obtain⟨g1,g2⟩:=mI (C:=C) hi
  rw[g1,g2,dJ] at ho
  rw[g2] at hb'
  exact .inl ⟨i,hlt,ho,hb'⟩
theorem jX(live:List (Nat×Option TypeId)): ∀(l:List AV) (n:Nat),(fQ live l n).length=l.length
 |[],_=>rfl
 |a::l,n=>by simp[fQ,jX live l]
theorem qY(live:List (Nat×Option TypeId)): ∀(l:List AV) (n i:Nat),nth (fQ live l n) i=nth l i\/nth (fQ live l n) i= .cH
 |[],_,_=> .inl rfl
 |a::l,n,0=>by
  simp only[fQ,nth]
  cases fQ.memL n live
  ·exact .inr rfl
  ·exact .inl rfl
 |a::l,n,i+1=>by simp only[fQ,nth];exact qY live l (n+1) i
theorem Bo{C:Ctx}{live:List (Nat×Option TypeId)}{bp:List AV}{tmps:Array Value}(h:gu C bp tmps):gu C (fQ live bp 0) tmps:=by
 refine⟨by rw[jX];exact h.1,fun i hi=>?_⟩
 rw[jX] at hi
 rcases qY live bp 0 i with h'|h'
 ·rw[h'];exact h.2 i hi
 ·rw[h'];exact lM _
theorem zR{C:Ctx}(hI:Inv C)(T:TypeId):Inv (C.add (.row T []) ⟨C.w.heap.size,0,true⟩ C.w)/\Ext C.st.length C (C.add (.row T []) ⟨C.w.heap.size,0,true⟩ C.w):=
 gI hI (o:= .row T []) (g:=⟨C.w.heap.size,0,true⟩) (w:=C.w) rfl (Nat.le_refl _) ⟨rfl,rfl,rfl⟩ (fun _ _=>rfl) ⟨trivial, .inl ⟨rfl,rfl⟩⟩
theorem rC{C:Ctx}(T:TypeId):j2 (C.add (.row T []) ⟨C.w.heap.size,0,true⟩ C.w) C.st.length 0 0 (.slice none 0 0):=by
 refine⟨fun T0 xs hx=>?_,fun _ _ _ _ hx=>(by rw[bx.1] at hx;cases hx)⟩
 rw[bx.1] at hx
 simp only[gY,aa4,ab0] at hx
 obtain⟨rfl,rfl⟩:=hx
 rw[bx.2]
 exact⟨by simp, .inl ⟨rfl,rfl,rfl,rfl⟩⟩
theorem ky: ∀(live:List (Nat×Option TypeId)) {C:Ctx} {s:S} {a:Act},Inv C->dt C s a->∃C',C'.w=C.w/\Inv C'/\dt C' (ka live s) a/\Ext C.st.length C C'
 |[],C,s,a,hI,hs=>⟨C,rfl,hI,hs,Ext.refl C (Nat.le_refl _)⟩
 |(r,none)::l,C,s,a,hI,hs=>by simp only[ka];exact ky l hI hs
 | (r,some T)::l,C,s,a,hI,hs=>by
  simp only[ka]
  split
  ·rename_i hr
   have hsame:a.tmps.setIfInBounds r (a.tmps.getD r undef)=a.tmps:=by
    apply Array.ext_getElem?
    intro k
    by_cases hk:r=k
    ·subst hk
     by_cases hlt':r<a.tmps.size
     ·simp[hlt']
     ·simp[hlt']
    ·rw[Array.getElem?_setIfInBounds_ne hk]
   split
   ·have hv:Rel C (.ad (T - OT) []) (a.tmps.getD r undef):=by
     rcases Nat.lt_or_ge r s.bp.length with hlt|hge
     ·have hv:=hs.bp.2 r hlt
      rw[hr] at hv
      rw[aQ hv]
      refine eF rfl rfl ?_ hI
      simp only[M]
      exact⟨trivial,none,0,rfl,Nat.le_refl _,fun h=>absurd rfl h⟩
     ·rw[ml _ _ hge] at hr;cases hr
    have hput:=hs.bp.put hv (d:=r)
    rw[hsame] at hput
    obtain⟨C',g1,g2,g3,g4⟩:=ky l (s:={bp:=cg s.bp r (.ad (T - OT) []),st:=s.st}) (a:=a) hI ⟨hs.st,hput⟩
    exact⟨C',g1,g2,g3,g4⟩
   obtain⟨h1,h2⟩:=zR hI T
   have hst:=hs.step hI h2
   rcases Nat.lt_or_ge r s.bp.length with hlt|hge
   ·have hv:=hs.bp.2 r hlt
    rw[hr] at hv
    have hv':=aQ hv
    have hrel:Rel (C.add (.row T []) ⟨C.w.heap.size,0,true⟩ C.w) (.aq C.st.length 0 0) (a.tmps.getD r undef):=by
     rw[hv']
     refine eF rfl rfl ?_ h1
     simp only[M]
     exact⟨by simp[Ctx.add],_,rfl,rfl,rC T⟩
    have hput:=hst.bp.put hrel (d:=r)
    rw[hsame] at hput
    obtain⟨C',g1,g2,g3,g4⟩:=ky l (s:={bp:=cg s.bp r (.aq s.st.length 0 0),st:=s.st++[.row T []]}) (a:=a) h1
     ⟨by simp[Ctx.add,hs.st],by rw[←hs.st];exact hput⟩
    exact⟨C',g1,g2,g3,h2.trans g4 (by simp[Ctx.add])⟩
   ·rw[ml _ _ hge] at hr;cases hr
  ·exact ky l hI hs
theorem HA{C:Ctx}{s:S}{a:Act}(P:Program)(i:Nat)(hI:Inv C)(hs:dt C s a): ∃C',C'.w=C.w/\Inv C'/\dt C' (D9 P i s) a/\Ext C.st.length C C':=by
 unfold D9
 split
 ·rename_i Tb hst
  split
  ·rename_i Te _
   obtain⟨h1,h2⟩:=zR hI Te
   rw[←hs.st] at hst
   have hi:i<C.st.length:=by
    rcases Nat.lt_or_ge i C.st.length with h|h
    ·exact h
    ·rw[eg _ _ h] at hst;cases hst
   generalize hC1:C.add (.row Te []) ⟨C.w.heap.size,0,true⟩ C.w=C1 at*
   have hw1:C1.w=C.w:=by rw[←hC1];rfl
   have hl1:C1.st.length=C.st.length+1:=by rw[←hC1];simp[Ctx.add]
   have hn1:ax C1.st i= .box Tb (.lit (.slice none 0 0)):=by rw[←hC1,(cO hi).1];exact hst
   have hι1:C1.ι i=C.ι i:=by rw[←hC1];exact(cO hi).2
   have hslc:j2 C1 C.st.length 0 0 (.slice none 0 0):=by rw[←hC1];exact rC Te
   have hob:=h1.obj i (by omega)
   rw[hn1] at hob
   obtain⟨g1,g2,c,e,g3,g4,g5⟩:=hob
   have hr:b9 C1 (C1.dE i (.box Tb (.aq C.st.length 0 0)) C1.w) i i:=j6 (by omega) hn1 Tb _ rfl rfl
   have hk:bR C1 (C1.dE i (.box Tb (.aq C.st.length 0 0)) C1.w):=⟨rfl,fun _ h=>h,fun _ _=>rfl⟩
   have hupd:=gi h1 (i:=i) (by omega) (o:= .box Tb (.aq C.st.length 0 0)) (w:=C1.w) (by rw[hn1];rfl) rfl ⟨rfl,rfl,rfl⟩ (fun _ _=>rfl) hr (by
    refine⟨g1,rfl,c,e,g3,by simpa[wid] using g4,?_⟩
    simp only[M] at g5⊢
    refine⟨by simp only[Ctx.dE,aU];omega,_,g5.1,rfl,?_⟩
    refine j2.move hk (ea h1 (by omega) (by simp only[Ctx.dE,aU];omega) (bz _ _ _ _ (by omega)) rfl (fun _ _ _=>⟨rfl,rfl,rfl⟩)) hslc)
   refine⟨C1.dE i (.box Tb (.aq C.st.length 0 0)) C1.w,hw1,hupd.1,?_,h2.trans hupd.2 (by omega)⟩
   have:=(hs.step hI h2).step h1 hupd.2
   refine⟨?_,this.bp⟩
   simp only[Ctx.dE,←hC1,Ctx.add,hs.st]
   have: ∀(l m:List Obj) (i:Nat) (x:Obj),i<l.length->df (l++m) i x=df l i x++m:=by
    intro l;induction l with
    |nil=>intro m i x h;simp at h
    |cons a l ih=>
     intro m i x h
     cases i with
     |zero=>rfl
     |succ i=>simp only[List.cons_append,df];rw[ih m i x (by simpa using h)]
   exact this _ _ _ _ (by rw[←hs.st];exact hi)
  ·exact⟨C,rfl,hI,hs,Ext.refl C (Nat.le_refl _)⟩
 ·exact⟨C,rfl,hI,hs,Ext.refl C (Nat.le_refl _)⟩
theorem ni(P:Program): ∀(is:List Nat) {C:Ctx} {s:S} {a:Act},Inv C->dt C s a->∃C',C'.w=C.w/\Inv C'/\dt C' (nt P is s) a/\Ext C.st.length C C'
 |[],C,s,a,hI,hs=>⟨C,rfl,hI,hs,Ext.refl C (Nat.le_refl _)⟩
 |i::is,C,s,a,hI,hs=>by
  simp only[nt]
  obtain⟨C1,g1,g2,g3,g4⟩:=HA P i hI hs
  obtain⟨C2,g5,g6,g7,g8⟩:=ni P is g2 g3
  refine⟨C2,g5.trans g1,g6,g7,g4.trans g8 ?_⟩
  rcases Nat.eq_zero_or_pos C.st.length with h|h
  ·omega
  ·have:=(g4.refs (C.st.length - 1) (by omega)).lt;omega
theorem CG: ∀(l:List AV) (j k:Nat),nth l j= .lit (.slice none 0 0)->eO (cg l j (.aq k 0 0))=eO l
 |[],_,_,h=>by simp[nth] at h
 |a::l,0,k,h=>by
  simp only[nth] at h
  subst h;rfl
 |a::l,j+1,k,h=>by
  simp only[nth] at h
  simp only[cg,eO,CG l j k h]
theorem uh: ∀(l:List AV) (j k:Nat),dH l=true->dH (cg l j (.aq k 0 0))=true
 |[],_,_,_=>rfl
 |a::l,0,k,h=>by
  simp only[dH,aa2,cg] at h⊢
  exact⟨rfl,h.2⟩
 |a::l,j+1,k,h=>by
  simp only[dH,aa2,cg] at h⊢
  exact⟨h.1,uh l j k h.2⟩
theorem FI{C:Ctx}{k:Nat}(hk:k<C.st.length)(hs:j2 C k 0 0 (.slice none 0 0)): ∀(l:List AV) (j:Nat) (s:Src) (o:Nat),nth l j= .lit (.slice none 0 0)->ML C l s o->ML C (cg l j (.aq k 0 0)) s o
 |[],_,_,_,h,_=>by simp[nth] at h
 |a::l,0,s,o,h,hm=>by
  simp only[nth] at h
  subst h
  simp only[cg,ML,M,wid] at hm⊢
  exact⟨⟨hk,_,hm.1.1,rfl,hs⟩,hm.2⟩
 |a::l,j+1,s,o,h,hm=>by
  simp only[nth] at h
  simp only[cg,ML] at hm⊢
  exact⟨hm.1,FI hk hs l j s _ h hm.2⟩
theorem CQ: ∀(l m:List Obj) (i:Nat) (x:Obj),i<l.length->df (l++m) i x=df l i x++m
 |[],_,_,_,h=>by simp at h
 |a::l,m,0,x,_=>rfl
 |a::l,m,i+1,x,h=>by
  simp only[List.cons_append,df]
  rw[CQ l m i x (by simpa using h)]
theorem Ot{C:Ctx}(hI:Inv C)(i j:Nat)(T:TypeId): ∃C',C'.w=C.w/\C'.P=C.P/\Inv C'/\C'.st=RT i j T C.st/\Ext C.st.length C C':=by
 unfold RT
 split
 ·rename_i Tb fs hst
  split
  ·rename_i hf
   obtain⟨h1,h2⟩:=zR hI T
   have hi:i<C.st.length:=by
    rcases Nat.lt_or_ge i C.st.length with h|h
    ·exact h
    ·rw[eg _ _ h] at hst;cases hst
   generalize hC1:C.add (.row T []) ⟨C.w.heap.size,0,true⟩ C.w=C1 at*
   have hw1:C1.w=C.w:=by rw[←hC1];rfl
   have hP1:C1.P=C.P:=by rw[←hC1];rfl
   have hl1:C1.st.length=C.st.length+1:=by rw[←hC1];simp[Ctx.add]
   have hn1:ax C1.st i= .box Tb (.agg fs):=by rw[←hC1,(cO hi).1];exact hst
   have hslc:j2 C1 C.st.length 0 0 (.slice none 0 0):=by rw[←hC1];exact rC T
   have hob:=h1.obj i (by omega)
   rw[hn1] at hob
   obtain⟨g1,g2,c,e,g3,g4,g5⟩:=hob
   have hr:b9 C1 (C1.dE i (.box Tb (.agg (cg fs j (.aq C.st.length 0 0)))) C1.w) i i:=j6 (by omega) hn1 Tb _ rfl rfl
   have hk:bR C1 (C1.dE i (.box Tb (.agg (cg fs j (.aq C.st.length 0 0)))) C1.w):=⟨rfl,fun _ h=>h,fun _ _=>rfl⟩
   have hlen:(C1.dE i (.box Tb (.agg (cg fs j (.aq C.st.length 0 0)))) C1.w).st.length=C1.st.length:=aU _ _ _
   have hrefs: ∀q,q<C1.st.length->b9 C1 (C1.dE i (.box Tb (.agg (cg fs j (.aq C.st.length 0 0)))) C1.w) q q:=fun q hq=>by
    by_cases hqi:i=q
    ·subst hqi;exact hr
    ·exact ea h1 hq (by omega) (bz _ _ _ _ hqi) rfl (fun _ _ _=>⟨rfl,rfl,rfl⟩)
   have hslc':=j2.move hk (hrefs C.st.length (by omega)) hslc
   have hupd:=gi h1 (i:=i) (by omega) (o:= .box Tb (.agg (cg fs j (.aq C.st.length 0 0)))) (w:=C1.w) (by rw[hn1];rfl) rfl ⟨rfl,rfl,rfl⟩ (fun _ _=>rfl) hr (by
    refine⟨g1,by simp only[cL] at g2⊢;exact uh _ _ _ g2,c,e,g3,by simpa[wid,CG _ _ _ hf] using g4,?_⟩
    simp only[M] at g5⊢
    refine FI (by rw[hlen];omega) hslc' fs j _ _ hf ?_
    have:=zy hk h1.lay some fs _ _ 0 0 (fun q hq hql=>⟨q,rfl,hrefs q hql⟩) (fun _ _=>rfl) g5
    rwa [fq] at this)
   refine⟨C1.dE i (.box Tb (.agg (cg fs j (.aq C.st.length 0 0)))) C1.w,hw1,hP1,hupd.1,?_,h2.trans hupd.2 (by omega)⟩
   simp only[Ctx.dE]
   rw[←hC1]
   exact CQ _ _ _ _ hi
  ·exact⟨C,rfl,rfl,hI,rfl,Ext.refl C (Nat.le_refl _)⟩
 ·exact⟨C,rfl,rfl,hI,rfl,Ext.refl C (Nat.le_refl _)⟩
theorem qw: ∀(l:List (Nat×Nat×TypeId)) {C:Ctx},Inv C->∃C',C'.w=C.w/\C'.P=C.P/\Inv C'/\C'.st=o6 l C.st/\Ext C.st.length C C'
 |[],C,hI=>⟨C,rfl,rfl,hI,rfl,Ext.refl C (Nat.le_refl _)⟩
 |(i,j,T)::l,C,hI=>by
  obtain⟨C1,a1,a2,a3,a4,a5⟩:=Ot hI i j T
  obtain⟨C2,b1,b2,b3,b4,b5⟩:=qw l a3
  refine⟨C2,b1.trans a1,b2.trans a2,b3,by rw[b4,a4];rfl,a5.trans b5 ?_⟩
  rcases Nat.eq_zero_or_pos C.st.length with h|h
  ·omega
  ·have:=(a5.refs (C.st.length - 1) (by omega)).lt;omega
theorem D1(l:List (Nat×Nat×TypeId)){C:Ctx}{s:S}{a:Act}(hI:Inv C)(hs:dt C s a): ∃C',C'.w=C.w/\Inv C'/\dt C' (yX l s) a/\Ext C.st.length C C':=by
 have key: ∃C',C'.w=C.w/\Inv C'/\dt C' {s with st:=o6 l s.st} a/\Ext C.st.length C C':=by
  obtain⟨C',h1,_,h3,h4,h5⟩:=qw l hI
  refine⟨C',h1,h3,?_,h5⟩
  have:=hs.step hI h5
  exact⟨by rw[h4,hs.st],this.bp⟩
 unfold yX
 split
 ·exact⟨C,rfl,hI,hs,Ext.refl C (Nat.le_refl _)⟩
 ·exact key
theorem uW{C:Ctx}{s:S}{a:Act}(P:Program)(live:List (Nat×Option TypeId)){base:Nat}(hI:Inv C)(hs:dt C s a)(hb:base<=s.st.length)(hok:jB P live base s=true):
  ∃C',C'.w=C.w/\Inv C'/\dt C' (canon P live base s) a/\Ext base C C'/\base<=(canon P live base s).st.length:=by
 obtain⟨C1,g1,g2,g3,g4⟩:=ky live hI (s:={s with bp:=fQ live s.bp 0}) ⟨hs.st,Bo hs.bp⟩
 obtain⟨C3,g9,ga,gb,gc⟩:=ni P (upto (ka live {s with bp:=fQ live s.bp 0}).st.length) g2 g3
 obtain⟨C2,gd,g6,g7,ge⟩:=D1 (zt live) ga gb
 have g5:C2.w=C1.w:=gd.trans g9
 have g8:Ext C1.st.length C1 C2:=gc.trans ge (by
  rcases Nat.eq_zero_or_pos C1.st.length with h|h
  ·omega
  ·have:=(gc.refs (C1.st.length - 1) (by omega)).lt;omega)
 have hpre:dt C2 (ie P live s) a:=g7
 unfold jB at hok
 rw[←hpre.st] at hok
 obtain⟨h1,h2,h3⟩:=vd g6 hok
 have hl1:C.st.length<=C1.st.length:=by
  rcases Nat.eq_zero_or_pos C.st.length with h|h
  ·omega
  ·have:=(g4.refs (C.st.length - 1) (by omega)).lt;omega
 have hl2:C1.st.length<=C2.st.length:=by
  rcases Nat.eq_zero_or_pos C1.st.length with h|h
  ·omega
  ·have:=(g8.refs (C1.st.length - 1) (by omega)).lt;omega
 have hsl:s.st.length=C.st.length:=by rw[hs.st]
 refine⟨C2.by (ic base C2.st (cZ (ie P live s).bp)),g5.trans g1,h1,?_,(g4.mono (by omega)).trans ((g8.mono (by omega)).trans h2 (Nat.le_refl _)) (Nat.le_refl _),?_⟩
 ·refine⟨?_,?_⟩
  ·simp only[canon,tI,Ctx.by,hpre.st]
  ·simp only[canon,tI]
   rw[←hpre.st]
   exact hpre.bp.move h2.keeps g6.lay _ (fun i hi _=>by obtain⟨j,hj⟩:=h3 i hi;exact⟨j,hj,ma hj⟩)
 ·have hrefs:=h2.refs
  have e:(canon P live base s).st.length=(C2.by (ic base C2.st (cZ (ie P live s).bp))).st.length:=by
   simp only[canon,tI,Ctx.by,hpre.st]
  rw[e]
  rcases Nat.eq_zero_or_pos base with h|h
  ·omega
  ·have:=(hrefs (base - 1) (by omega)).lt;omega
end Go.Dn
