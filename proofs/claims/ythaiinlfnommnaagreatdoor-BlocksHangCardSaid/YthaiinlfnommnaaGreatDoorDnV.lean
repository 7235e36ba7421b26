import Derived.Test.YthaiinlfnommnaaGreatDoorDnU
namespace Go.Dn
open Go
theorem kQ: ∀(l:List Nat) (i:Nat),jm i l=true↔i∈l
 |[],i=>by simp[jm]
 |j::l,i=>by simp[jm,kQ l i,Nat.beq_eq]
theorem kC{ids:List Nat}: ∀{l:List Nat},Bz ids l=true->∀i,i∈l->i∈ids
 |[],_,i,h=>by simp at h
 |j::l,h,i,hi=>by
  simp only[Bz,aa2] at h
  rcases List.mem_cons.1 hi with rfl|hi
  ·exact(kQ _ _).1 h.1
  ·exact kC h.2 i hi
theorem mW{n:Nat}: ∀{l:List Nat},Hk n l=true->∀i,i∈l->i<n
 |[],_,i,h=>by simp at h
 |j::l,h,i,hi=>by
  simp only[Hk,aa2,aa1] at h
  rcases List.mem_cons.1 hi with rfl|hi
  ·exact h.1
  ·exact mW h.2 i hi
theorem lF: ∀{l:List Nat},A0 l=true->l.Nodup
 |[],_=>by simp
 |j::l,h=>by
  simp only[A0,aa2,Bool.not_eq_true'] at h
  rw[List.nodup_cons]
  exact⟨fun hm=>by rw[(kQ _ _).2 hm] at h;simp at h,lF h.2⟩
theorem ru: ∀{ids:List Nat} {i n j:Nat},jZ i ids n=some j->∃k,j=n+k/\ids[k]? =some i
 |[],_,_,_,h=>by simp[jZ] at h
 | a::ids,i,n,j,h=>by
  simp only[jZ] at h
  cases hb:Nat.beq i a with
  |true=>
   rw[hb] at h
   simp only[aa8,aa4] at h
   exact⟨0,by omega,by simp[Nat.eq_of_beq_eq_true hb]⟩
  |false=>
   rw[hb] at h
   simp only[aa6] at h
   obtain⟨k,h1,h2⟩:=ru h
   exact⟨k+1,by omega,by simpa using h2⟩
theorem nC: ∀{ids:List Nat} {i:Nat} (n:Nat),i∈ids->∃j,jZ i ids n=some j
 |[],_,_,h=>by simp at h
 | a::ids,i,n,h=>by
  simp only[jZ]
  cases hb:Nat.beq i a with
  |true=>exact⟨n,rfl⟩
  |false=>
   simp only[aa6]
   rcases List.mem_cons.1 h with rfl|h
   ·rw[Nat.beq_refl] at hb;cases hb
   ·exact nC (n+1) h
theorem su{st:List Obj}: ∀{ids:List Nat} {k i:Nat},ids[k]? =some i->aw (gT st ids) k=aw st i
 |[],_,_,h=>by simp at h
 |a::ids,0,i,h=>by simp at h;subst h;rfl
 |a::ids,k+1,i,h=>by simp only[gT,aw];exact su (by simpa using h)
theorem kf{st:List Obj}: ∀ids:List Nat,(gT st ids).length=ids.length
 |[]=>rfl
 |a::ids=>by simp[gT,kf ids]
theorem iY(ρ:Nat->Option Nat): ∀l:List Obj,(gA ρ l).length=l.length
 |[]=>rfl
 |a::l=>by simp[gA,iY ρ l]
theorem pb(ρ:Nat->Option Nat): ∀(l:List Obj) (k:Nat),aw (gA ρ l) k=fc ρ (aw l k)
 |[],_=>rfl
 |a::l,0=>rfl
 |a::l,k+1=>by simp only[gA,aw];exact pb ρ l k
theorem qk{st:List Obj}: ∀{ids:List Nat} {i j:Nat},i∈ids->j∈yg (aw st i)->j∈uN st ids
 |[],_,_,h,_=>by simp at h
 |a::ids,i,j,h,hj=>by
  simp only[uN,List.mem_append]
  rcases List.mem_cons.1 h with rfl|h
  ·exact .inl hj
  ·exact .inr (qk h hj)
theorem zr(ρ:Nat->Option Nat)(o:Obj):hJ (fc ρ o)=hJ o:=by cases o<;>rfl
theorem CW: ∀{n i:Nat},i<n->i∈upto n
 |0,_,h=>by omega
 |n+1,i,h=>by
  simp only[upto,List.mem_append,List.mem_singleton]
  rcases Nat.lt_or_ge i n with h'|h'
  ·exact .inl (CW h')
  ·exact .inr (by omega)
theorem qQ{ids:List Nat}: ∀{l:List Nat},ub ids l=true->∀i,i∈l->jZ i ids 0=some i
 |[],_,_,h=>by simp at h
 | j::l,h,i,hi=>by
  simp only[ub,aa2] at h
  rcases List.mem_cons.1 hi with rfl|hi
  ·have:=h.1
   split at this
   ·rename_i k hk;rw[hk,Nat.eq_of_beq_eq_true this]
   ·cases this
  ·exact qQ h.2 i hi
def Ctx.by(C:Ctx)(ids:List Nat):Ctx:={C with st:=gA (fun i=>jZ i ids 0) (gT C.st ids),ι:=fun k=>C.ι (ids.getD k 0)}
theorem my{C:Ctx}{ids:List Nat}{k i:Nat}(h:ids[k]? =some i):aw (C.by ids).st k=fc (fun i=>jZ i ids 0) (aw C.st i)/\(C.by ids).ι k=C.ι i:=by
 refine⟨?_,?_⟩
 ·simp only[Ctx.by];rw[pb,su h]
 ·simp only[Ctx.by];rw[List.getD_eq_getElem?_getD,h];rfl
theorem nv{C:Ctx}{ids:List Nat}:(C.by ids).st.length=ids.length:=by simp[Ctx.by,iY,kf]
theorem me{C:Ctx}{ids:List Nat}{i j:Nat}(h:jZ i ids 0=some j):cd C (C.by ids) i j:=by
 obtain⟨k,hk,hi⟩:=ru h
 obtain rfl:j=k:=by omega
 obtain⟨h1,h2⟩:=my (C:=C) hi
 refine⟨by rw[nv];exact(List.getElem?_eq_some_iff.1 hi).1,fun T xs hx=>?_,fun T a hx=>?_,fun K V es hx=>?_,fun r hx=>?_,fun m n ks hx=>?_,fun t hx=>?_,fun s p hx=>?_,fun K V ks vs met hx=>?_,fun T E ls pd hx=>?_⟩
 ·rw[h1,zr] at hx;exact⟨xs,hx,h2,Nat.le_refl _⟩
 ·rw[h1] at hx
  cases ho:aw C.st i<;>rw[ho] at hx<;>simp[fc] at hx
  obtain⟨rfl,_⟩:=hx
  exact⟨_,rfl,h2⟩
 ·rw[h1] at hx
  cases ho:aw C.st i<;>rw[ho] at hx<;>simp[fc] at hx
  obtain⟨rfl,rfl,rfl⟩:=hx
  exact⟨_,rfl,h2,fun ents clock hh=>⟨ents,clock,hh,dX.refl _ _⟩⟩
 ·rw[h1] at hx
  cases ho:aw C.st i<;>rw[ho] at hx<;>simp[fc] at hx
  exact⟨_,rfl,h2⟩
 ·rw[h1] at hx
  cases ho:aw C.st i<;>rw[ho] at hx<;>simp[fc] at hx
  obtain⟨_,rfl,_⟩:=hx
  exact⟨_,_,rfl,h2⟩
 ·rw[h1] at hx
  cases ho:aw C.st i<;>rw[ho] at hx<;>simp[fc] at hx
  exact⟨_,rfl,h2⟩
 ·rw[h1] at hx
  cases ho:aw C.st i<;>rw[ho] at hx<;>simp[fc] at hx
  obtain⟨rfl,_⟩:=hx
  exact⟨_,rfl,h2⟩
 ·rw[h1] at hx
  cases ho:aw C.st i<;>rw[ho] at hx<;>simp[fc] at hx
  obtain⟨rfl,rfl,rfl,rfl,_⟩:=hx
  exact⟨_,rfl,h2⟩
 ·rw[h1] at hx
  cases ho:aw C.st i<;>rw[ho] at hx<;>simp[fc] at hx
  obtain⟨rfl,rfl,rfl,_⟩:=hx
  exact⟨_,_,rfl,h2,rfl,fun _ _ _ h=>h⟩
theorem vW{C:Ctx}(hI:Inv C){base:Nat}{roots ids:List Nat}(hok:pw base C.st roots ids=true):Inv (C.by ids)/\Ext base C (C.by ids)/\(∀i,i∈roots->∃j,jZ i ids 0=some j):=by
 simp only[pw,aa2] at hok
 obtain⟨⟨⟨⟨h1,h2⟩,h3⟩,h4⟩,h5⟩:=hok
 have hnd:=lF h1
 have hk:bQ C (C.by ids):=⟨rfl,fun _ h=>h,fun _ _=>rfl⟩
 have hat: ∀k,k<ids.length->∃i,ids[k]? =some i/\i<C.st.length:=fun k hk=>⟨ids[k],by simp[hk],mW h2 _ (List.getElem_mem hk)⟩
 refine⟨⟨hI.lay,fun k hk'=>?_,fun k l hk' hl hkl hok hol=>?_,hI.xs,fun k hk' hok=>?_,hI.pg,hI.mm hk⟩,⟨hk,Nat.le_refl _,rfl,rfl,rfl,fun _ _ _=>rfl,fun b hb=> .inl hb,fun b hb=>?_,fun i hi=>me (qQ h3 i (CW hi)),fun _=> .inl ⟨rfl,rfl⟩,rfl⟩,fun i hi=>nC 0 (kC h4 i hi)⟩
 ·rw[nv] at hk'
  obtain⟨i,hi,hlt⟩:=hat k hk'
  obtain⟨g1,g2⟩:=my (C:=C) hi
  rw[g1,g2]
  have hmem:i∈ids:=List.mem_iff_getElem?.2 ⟨k,hi⟩
  refine(hI.obj i hlt).move hk hI.lay _ (fun j hj hlt'=>?_) (hI.fm i hlt) ⟨fun b ho hb=>⟨(hI.dJ ⟨i,hlt,ho,hb.symm⟩).2,rfl⟩,fun _ _=>⟨Iff.rfl,fun _=>rfl⟩,dY.refl _,Nat.le_refl _,fun _ _=>rfl⟩
  obtain⟨m,hm⟩:=nC (ids:=ids) 0 (kC h5 j (qk hmem hj))
  exact⟨m,hm,me hm⟩
 ·rw[nv] at hk' hl
  obtain⟨i,hi,hlt⟩:=hat k hk'
  obtain⟨j,hj,hlt'⟩:=hat l hl
  obtain⟨g1,g2⟩:=my (C:=C) hi
  obtain⟨g3,g4⟩:=my (C:=C) hj
  rw[g1,g2,dK] at hok
  rw[g3,g4,dK] at hol
  rw[g2,g4]
  refine hI.rH i j hlt hlt' (fun e=>hkl ?_) hok hol
  subst e
  obtain⟨_,e1⟩:=List.getElem?_eq_some_iff.1 hi
  obtain⟨_,e2⟩:=List.getElem?_eq_some_iff.1 hj
  exact(List.getElem_inj hnd).1 (e1.trans e2.symm)
 ·rw[nv] at hk'
  obtain⟨i,hi,hlt⟩:=hat k hk'
  obtain⟨g1,g2⟩:=my (C:=C) hi
  rw[g1,g2,dK] at hok
  rw[g2]
  exact hI.fm i hlt hok
 ·obtain⟨k,hk',ho,hb'⟩:=hb
  rw[nv] at hk'
  obtain⟨i,hi,hlt⟩:=hat k hk'
  obtain⟨g1,g2⟩:=my (C:=C) hi
  rw[g1,g2,dK] at ho
  rw[g2] at hb'
  exact .inl ⟨i,hlt,ho,hb'⟩
theorem jV(live:List (Nat×Option TypeId)): ∀(l:List AV) (n:Nat),(fX live l n).length=l.length
 |[],_=>rfl
 |a::l,n=>by simp[fX,jV live l]
theorem rF(live:List (Nat×Option TypeId)): ∀(l:List AV) (n i:Nat),nth (fX live l n) i=nth l i\/nth (fX live l n) i= .cG
 |[],_,_=> .inl rfl
 |a::l,n,0=>by
  simp only[fX,nth]
  cases fX.memL n live
  ·exact .inr rfl
  ·exact .inl rfl
 |a::l,n,i+1=>by simp only[fX,nth];exact rF live l (n+1) i
theorem Bt{C:Ctx}{live:List (Nat×Option TypeId)}{bn:List AV}{tmps:Array Value}(h:gC C bn tmps):gC C (fX live bn 0) tmps:=by
 refine⟨by rw[jV];exact h.1,fun i hi=>?_⟩
 rw[jV] at hi
 rcases rF live bn 0 i with h'|h'
 ·rw[h'];exact h.2 i hi
 ·rw[h'];exact l6 _
theorem AZ{C:Ctx}(hI:Inv C)(T:TypeId):Inv (C.add (.row T []) ⟨C.w.heap.size,0,true⟩ C.w)/\Ext C.st.length C (C.add (.row T []) ⟨C.w.heap.size,0,true⟩ C.w):=
 gN hI (o:= .row T []) (g:=⟨C.w.heap.size,0,true⟩) (w:=C.w) rfl (Nat.le_refl _) ⟨rfl,rfl,rfl⟩ (fun _ _=>rfl) ⟨trivial, .inl ⟨rfl,rfl⟩⟩
theorem sG{C:Ctx}(T:TypeId):j6 (C.add (.row T []) ⟨C.w.heap.size,0,true⟩ C.w) C.st.length 0 0 (.slice none 0 0):=by
 refine⟨fun T0 xs hx=>?_,fun _ _ _ _ hx=>(by rw[bx.1] at hx;cases hx)⟩
 rw[bx.1] at hx
 simp only[hJ,aa4,ab0] at hx
 obtain⟨rfl,rfl⟩:=hx
 rw[bx.2]
 exact⟨by simp, .inl ⟨rfl,rfl,rfl,rfl⟩⟩
theorem ky: ∀(live:List (Nat×Option TypeId)) {C:Ctx} {s:S} {a:Act},Inv C->dt C s a->∃C',C'.w=C.w/\Inv C'/\dt C' (j9 live s) a/\Ext C.st.length C C'
 |[],C,s,a,hI,hs=>⟨C,rfl,hI,hs,Ext.refl C (Nat.le_refl _)⟩
 |(r,none)::l,C,s,a,hI,hs=>by simp only[j9];exact ky l hI hs
 | (r,some T)::l,C,s,a,hI,hs=>by
  simp only[j9]
  split
  ·rename_i hr
   have hsame:a.tmps.setIfInBounds r (a.tmps.getD r undef)=a.tmps:=by
    apply Array.ext_getElem?
    intro k
    by_cases hk:r=k
    ·subst hk
     by_cases hlt':r<a.tmps.size
     ·simp[hlt']
     ·simp[hlt']
    ·rw[Array.getElem?_setIfInBounds_ne hk]
   split
   ·have hv:Rel C (.ad (T - Ox) []) (a.tmps.getD r undef):=by
     rcases Nat.lt_or_ge r s.bn.length with hlt|hge
     ·have hv:=hs.bn.2 r hlt
      rw[hr] at hv
      rw[aQ hv]
      refine eH rfl rfl ?_ hI
      simp only[M]
      exact⟨trivial,none,0,rfl,Nat.le_refl _,fun h=>absurd rfl h⟩
     ·rw[mS _ _ hge] at hr;cases hr
    have hput:=hs.bn.put hv (d:=r)
    rw[hsame] at hput
    obtain⟨C',g1,g2,g3,g4⟩:=ky l (s:={bn:=cg s.bn r (.ad (T - Ox) []),st:=s.st}) (a:=a) hI ⟨hs.st,hput⟩
    exact⟨C',g1,g2,g3,g4⟩
   obtain⟨h1,h2⟩:=AZ hI T
   have hst:=hs.step hI h2
   rcases Nat.lt_or_ge r s.bn.length with hlt|hge
   ·have hv:=hs.bn.2 r hlt
    rw[hr] at hv
    have hv':=aQ hv
    have hrel:Rel (C.add (.row T []) ⟨C.w.heap.size,0,true⟩ C.w) (.an C.st.length 0 0) (a.tmps.getD r undef):=by
     rw[hv']
     refine eH rfl rfl ?_ h1
     simp only[M]
     exact⟨by simp[Ctx.add],_,rfl,rfl,sG T⟩
    have hput:=hst.bn.put hrel (d:=r)
    rw[hsame] at hput
    obtain⟨C',g1,g2,g3,g4⟩:=ky l (s:={bn:=cg s.bn r (.an s.st.length 0 0),st:=s.st++[.row T []]}) (a:=a) h1
     ⟨by simp[Ctx.add,hs.st],by rw[←hs.st];exact hput⟩
    exact⟨C',g1,g2,g3,h2.trans g4 (by simp[Ctx.add])⟩
   ·rw[mS _ _ hge] at hr;cases hr
  ·exact ky l hI hs
theorem HY{C:Ctx}{s:S}{a:Act}(P:Program)(i:Nat)(hI:Inv C)(hs:dt C s a): ∃C',C'.w=C.w/\Inv C'/\dt C' (Fv P i s) a/\Ext C.st.length C C':=by
 unfold Fv
 split
 ·rename_i Tb hst
  split
  ·rename_i Te _
   obtain⟨h1,h2⟩:=AZ hI Te
   rw[←hs.st] at hst
   have hi:i<C.st.length:=by
    rcases Nat.lt_or_ge i C.st.length with h|h
    ·exact h
    ·rw[eo _ _ h] at hst;cases hst
   generalize hC1:C.add (.row Te []) ⟨C.w.heap.size,0,true⟩ C.w=C1 at*
   have hw1:C1.w=C.w:=by rw[←hC1];rfl
   have hl1:C1.st.length=C.st.length+1:=by rw[←hC1];simp[Ctx.add]
   have hn1:aw C1.st i= .box Tb (.lit (.slice none 0 0)):=by rw[←hC1,(cL hi).1];exact hst
   have hι1:C1.ι i=C.ι i:=by rw[←hC1];exact(cL hi).2
   have hslc:j6 C1 C.st.length 0 0 (.slice none 0 0):=by rw[←hC1];exact sG Te
   have hob:=h1.obj i (by omega)
   rw[hn1] at hob
   obtain⟨g1,g2,c,e,g3,g4,g5⟩:=hob
   have hr:cd C1 (C1.dA i (.box Tb (.an C.st.length 0 0)) C1.w) i i:=kg (by omega) hn1 Tb _ rfl rfl
   have hk:bQ C1 (C1.dA i (.box Tb (.an C.st.length 0 0)) C1.w):=⟨rfl,fun _ h=>h,fun _ _=>rfl⟩
   have hupd:=gp h1 (i:=i) (by omega) (o:= .box Tb (.an C.st.length 0 0)) (w:=C1.w) (by rw[hn1];rfl) rfl ⟨rfl,rfl,rfl⟩ (fun _ _=>rfl) hr (by
    refine⟨g1,rfl,c,e,g3,by simpa[wid] using g4,?_⟩
    simp only[M] at g5⊢
    refine⟨by simp only[Ctx.dA,aU];omega,_,g5.1,rfl,?_⟩
    refine j6.move hk (ee h1 (by omega) (by simp only[Ctx.dA,aU];omega) (bz _ _ _ _ (by omega)) rfl (fun _ _ _=>⟨rfl,rfl,rfl⟩)) hslc)
   refine⟨C1.dA i (.box Tb (.an C.st.length 0 0)) C1.w,hw1,hupd.1,?_,h2.trans hupd.2 (by omega)⟩
   have:=(hs.step hI h2).step h1 hupd.2
   refine⟨?_,this.bn⟩
   simp only[Ctx.dA,←hC1,Ctx.add,hs.st]
   have: ∀(l m:List Obj) (i:Nat) (x:Obj),i<l.length->db (l++m) i x=db l i x++m:=by
    intro l;induction l with
    |nil=>intro m i x h;simp at h
    |cons a l ih=>
     intro m i x h
     cases i with
     |zero=>rfl
     |succ i=>simp only[List.cons_append,db];rw[ih m i x (by simpa using h)]
   exact this _ _ _ _ (by rw[←hs.st];exact hi)
  ·exact⟨C,rfl,hI,hs,Ext.refl C (Nat.le_refl _)⟩
 ·exact⟨C,rfl,hI,hs,Ext.refl C (Nat.le_refl _)⟩
theorem oF(P:Program): ∀(is:List Nat) {C:Ctx} {s:S} {a:Act},Inv C->dt C s a->∃C',C'.w=C.w/\Inv C'/\dt C' (n6 P is s) a/\Ext C.st.length C C'
 |[],C,s,a,hI,hs=>⟨C,rfl,hI,hs,Ext.refl C (Nat.le_refl _)⟩
 |i::is,C,s,a,hI,hs=>by
  simp only[n6]
  obtain⟨C1,g1,g2,g3,g4⟩:=HY P i hI hs
  obtain⟨C2,g5,g6,g7,g8⟩:=oF P is g2 g3
  refine⟨C2,g5.trans g1,g6,g7,g4.trans g8 ?_⟩
  rcases Nat.eq_zero_or_pos C.st.length with h|h
  ·omega
  ·have:=(g4.refs (C.st.length - 1) (by omega)).lt;omega
theorem Da: ∀(l:List AV) (j k:Nat),nth l j= .lit (.slice none 0 0)->eQ (cg l j (.an k 0 0))=eQ l
 |[],_,_,h=>by simp[nth] at h
 |a::l,0,k,h=>by
  simp only[nth] at h
  subst h;rfl
 |a::l,j+1,k,h=>by
  simp only[nth] at h
  simp only[cg,eQ,Da l j k h]
theorem vE: ∀(l:List AV) (j k:Nat),dI l=true->dI (cg l j (.an k 0 0))=true
 |[],_,_,_=>rfl
 |a::l,0,k,h=>by
  simp only[dI,aa2,cg] at h⊢
  exact⟨rfl,h.2⟩
 |a::l,j+1,k,h=>by
  simp only[dI,aa2,cg] at h⊢
  exact⟨h.1,vE l j k h.2⟩
theorem F5{C:Ctx}{k:Nat}(hk:k<C.st.length)(hs:j6 C k 0 0 (.slice none 0 0)): ∀(l:List AV) (j:Nat) (s:Src) (o:Nat),nth l j= .lit (.slice none 0 0)->ML C l s o->ML C (cg l j (.an k 0 0)) s o
 |[],_,_,_,h,_=>by simp[nth] at h
 |a::l,0,s,o,h,hm=>by
  simp only[nth] at h
  subst h
  simp only[cg,ML,M,wid] at hm⊢
  exact⟨⟨hk,_,hm.1.1,rfl,hs⟩,hm.2⟩
 |a::l,j+1,s,o,h,hm=>by
  simp only[nth] at h
  simp only[cg,ML] at hm⊢
  exact⟨hm.1,F5 hk hs l j s _ h hm.2⟩
theorem Bn: ∀(l m:List Obj) (i:Nat) (x:Obj),i<l.length->db (l++m) i x=db l i x++m
 |[],_,_,_,h=>by simp at h
 |a::l,m,0,x,_=>rfl
 |a::l,m,i+1,x,h=>by
  simp only[List.cons_append,db]
  rw[Bn l m i x (by simpa using h)]
theorem Oi{C:Ctx}(hI:Inv C)(i j:Nat)(T:TypeId): ∃C',C'.w=C.w/\C'.P=C.P/\Inv C'/\C'.st=Q3 i j T C.st/\Ext C.st.length C C':=by
 unfold Q3
 split
 ·rename_i Tb fs hst
  split
  ·rename_i hf
   obtain⟨h1,h2⟩:=AZ hI T
   have hi:i<C.st.length:=by
    rcases Nat.lt_or_ge i C.st.length with h|h
    ·exact h
    ·rw[eo _ _ h] at hst;cases hst
   generalize hC1:C.add (.row T []) ⟨C.w.heap.size,0,true⟩ C.w=C1 at*
   have hw1:C1.w=C.w:=by rw[←hC1];rfl
   have hP1:C1.P=C.P:=by rw[←hC1];rfl
   have hl1:C1.st.length=C.st.length+1:=by rw[←hC1];simp[Ctx.add]
   have hn1:aw C1.st i= .box Tb (.agg fs):=by rw[←hC1,(cL hi).1];exact hst
   have hslc:j6 C1 C.st.length 0 0 (.slice none 0 0):=by rw[←hC1];exact sG T
   have hob:=h1.obj i (by omega)
   rw[hn1] at hob
   obtain⟨g1,g2,c,e,g3,g4,g5⟩:=hob
   have hr:cd C1 (C1.dA i (.box Tb (.agg (cg fs j (.an C.st.length 0 0)))) C1.w) i i:=kg (by omega) hn1 Tb _ rfl rfl
   have hk:bQ C1 (C1.dA i (.box Tb (.agg (cg fs j (.an C.st.length 0 0)))) C1.w):=⟨rfl,fun _ h=>h,fun _ _=>rfl⟩
   have hlen:(C1.dA i (.box Tb (.agg (cg fs j (.an C.st.length 0 0)))) C1.w).st.length=C1.st.length:=aU _ _ _
   have hrefs: ∀q,q<C1.st.length->cd C1 (C1.dA i (.box Tb (.agg (cg fs j (.an C.st.length 0 0)))) C1.w) q q:=fun q hq=>by
    by_cases hqi:i=q
    ·subst hqi;exact hr
    ·exact ee h1 hq (by omega) (bz _ _ _ _ hqi) rfl (fun _ _ _=>⟨rfl,rfl,rfl⟩)
   have hslc':=j6.move hk (hrefs C.st.length (by omega)) hslc
   have hupd:=gp h1 (i:=i) (by omega) (o:= .box Tb (.agg (cg fs j (.an C.st.length 0 0)))) (w:=C1.w) (by rw[hn1];rfl) rfl ⟨rfl,rfl,rfl⟩ (fun _ _=>rfl) hr (by
    refine⟨g1,by simp only[cO] at g2⊢;exact vE _ _ _ g2,c,e,g3,by simpa[wid,Da _ _ _ hf] using g4,?_⟩
    simp only[M] at g5⊢
    refine F5 (by rw[hlen];omega) hslc' fs j _ _ hf ?_
    have:=yY hk h1.lay some fs _ _ 0 0 (fun q hq hql=>⟨q,rfl,hrefs q hql⟩) (fun _ _=>rfl) g5
    rwa [fD] at this)
   refine⟨C1.dA i (.box Tb (.agg (cg fs j (.an C.st.length 0 0)))) C1.w,hw1,hP1,hupd.1,?_,h2.trans hupd.2 (by omega)⟩
   simp only[Ctx.dA]
   rw[←hC1]
   exact Bn _ _ _ _ hi
  ·exact⟨C,rfl,rfl,hI,rfl,Ext.refl C (Nat.le_refl _)⟩
 ·exact⟨C,rfl,rfl,hI,rfl,Ext.refl C (Nat.le_refl _)⟩
theorem rf: ∀(l:List (Nat×Nat×TypeId)) {C:Ctx},Inv C->∃C',C'.w=C.w/\C'.P=C.P/\Inv C'/\C'.st=pC l C.st/\Ext C.st.length C C'
 |[],C,hI=>⟨C,rfl,rfl,hI,rfl,Ext.refl C (Nat.le_refl _)⟩
 |(i,j,T)::l,C,hI=>by
  obtain⟨C1,a1,a2,a3,a4,a5⟩:=Oi hI i j T
  obtain⟨C2,b1,b2,b3,b4,b5⟩:=rf l a3
  refine⟨C2,b1.trans a1,b2.trans a2,b3,by rw[b4,a4];rfl,a5.trans b5 ?_⟩
  rcases Nat.eq_zero_or_pos C.st.length with h|h
  ·omega
  ·have:=(a5.refs (C.st.length - 1) (by omega)).lt;omega
theorem Fe(l:List (Nat×Nat×TypeId)){C:Ctx}{s:S}{a:Act}(hI:Inv C)(hs:dt C s a): ∃C',C'.w=C.w/\Inv C'/\dt C' (Ad l s) a/\Ext C.st.length C C':=by
 have key: ∃C',C'.w=C.w/\Inv C'/\dt C' {s with st:=pC l s.st} a/\Ext C.st.length C C':=by
  obtain⟨C',h1,_,h3,h4,h5⟩:=rf l hI
  refine⟨C',h1,h3,?_,h5⟩
  have:=hs.step hI h5
  exact⟨by rw[h4,hs.st],this.bn⟩
 unfold Ad
 split
 ·exact⟨C,rfl,hI,hs,Ext.refl C (Nat.le_refl _)⟩
 ·exact key
theorem we{C:Ctx}{s:S}{a:Act}(P:Program)(live:List (Nat×Option TypeId)){base:Nat}(hI:Inv C)(hs:dt C s a)(hb:base<=s.st.length)(hok:jD P live base s=true):
  ∃C',C'.w=C.w/\Inv C'/\dt C' (canon P live base s) a/\Ext base C C'/\base<=(canon P live base s).st.length:=by
 obtain⟨C1,g1,g2,g3,g4⟩:=ky live hI (s:={s with bn:=fX live s.bn 0}) ⟨hs.st,Bt hs.bn⟩
 obtain⟨C3,g9,ga,gb,gc⟩:=oF P (upto (j9 live {s with bn:=fX live s.bn 0}).st.length) g2 g3
 obtain⟨C2,gd,g6,g7,ge⟩:=Fe (zW live) ga gb
 have g5:C2.w=C1.w:=gd.trans g9
 have g8:Ext C1.st.length C1 C2:=gc.trans ge (by
  rcases Nat.eq_zero_or_pos C1.st.length with h|h
  ·omega
  ·have:=(gc.refs (C1.st.length - 1) (by omega)).lt;omega)
 have hpre:dt C2 (iq P live s) a:=g7
 unfold jD at hok
 rw[←hpre.st] at hok
 obtain⟨h1,h2,h3⟩:=vW g6 hok
 have hl1:C.st.length<=C1.st.length:=by
  rcases Nat.eq_zero_or_pos C.st.length with h|h
  ·omega
  ·have:=(g4.refs (C.st.length - 1) (by omega)).lt;omega
 have hl2:C1.st.length<=C2.st.length:=by
  rcases Nat.eq_zero_or_pos C1.st.length with h|h
  ·omega
  ·have:=(g8.refs (C1.st.length - 1) (by omega)).lt;omega
 have hsl:s.st.length=C.st.length:=by rw[hs.st]
 refine⟨C2.by (ig base C2.st (cW (iq P live s).bn)),g5.trans g1,h1,?_,(g4.mono (by omega)).trans ((g8.mono (by omega)).trans h2 (Nat.le_refl _)) (Nat.le_refl _),?_⟩
 ·refine⟨?_,?_⟩
  ·simp only[canon,tQ,Ctx.by,hpre.st]
  ·simp only[canon,tQ]
   rw[←hpre.st]
   exact hpre.bn.move h2.keeps g6.lay _ (fun i hi _=>by obtain⟨j,hj⟩:=h3 i hi;exact⟨j,hj,me hj⟩)
 ·have hrefs:=h2.refs
  have e:(canon P live base s).st.length=(C2.by (ig base C2.st (cW (iq P live s).bn))).st.length:=by
   simp only[canon,tQ,Ctx.by,hpre.st]
  rw[e]
  rcases Nat.eq_zero_or_pos base with h|h
  ·omega
  ·have:=(hrefs (base - 1) (by omega)).lt;omega
end Go.Dn
