import Derived.Test.YtioeffnadipbaaaGreatDoorDnU
namespace Go.Dn
open Go
theorem kl: ∀(l:List Nat) (i:Nat),gL i l=true↔i∈l
 |[],i=>by simp[gL]
 |j::l,i=>by simp[gL,kl l i,Nat.beq_eq]
theorem j7{ids:List Nat}: ∀{l:List Nat},A7 ids l=true->∀i,i∈l->i∈ids
 |[],_,i,h=>by simp at h
 |j::l,h,i,hi=>by
  simp only[A7,aa1] at h
  rcases List.mem_cons.1 hi with rfl|hi
  ·exact(kl _ _).1 h.1
  ·exact j7 h.2 i hi
theorem mC{n:Nat}: ∀{l:List Nat},Fa n l=true->∀i,i∈l->i<n
 |[],_,i,h=>by simp at h
 |j::l,h,i,hi=>by
  simp only[Fa,aa1,aa0] at h
  rcases List.mem_cons.1 hi with rfl|hi
  ·exact h.1
  ·exact mC h.2 i hi
theorem kU: ∀{l:List Nat},zG l=true->l.Nodup
 |[],_=>by simp
 |j::l,h=>by
  simp only[zG,aa1,Bool.not_eq_true'] at h
  rw[List.nodup_cons]
  exact⟨fun hm=>by rw[(kl _ _).2 hm] at h;simp at h,kU h.2⟩
theorem qS: ∀{ids:List Nat} {i n j:Nat},jt i ids n=some j->∃k,j=n+k/\ids[k]? =some i
 |[],_,_,_,h=>by simp[jt] at h
 | a::ids,i,n,j,h=>by
  simp only[jt] at h
  cases hb:Nat.beq i a with
  |true=>
   rw[hb] at h
   simp only[aa7,aa3] at h
   exact⟨0,by omega,by simp[Nat.eq_of_beq_eq_true hb]⟩
  |false=>
   rw[hb] at h
   simp only[aa5] at h
   obtain⟨k,h1,h2⟩:=qS h
   exact⟨k+1,by omega,by simpa using h2⟩
theorem nV: ∀{ids:List Nat} {i:Nat} (n:Nat),i∈ids->∃j,jt i ids n=some j
 |[],_,_,h=>by simp at h
 | a::ids,i,n,h=>by
  simp only[jt]
  cases hb:Nat.beq i a with
  |true=>exact⟨n,rfl⟩
  |false=>
   simp only[aa5]
   rcases List.mem_cons.1 h with rfl|h
   ·rw[Nat.beq_refl] at hb;cases hb
   ·exact nV (n+1) h
theorem rq{st:List Obj}: ∀{ids:List Nat} {k i:Nat},ids[k]? =some i->an (ik st ids) k=an st i
 |[],_,_,h=>by simp at h
 |a::ids,0,i,h=>by simp at h;subst h;rfl
 |a::ids,k+1,i,h=>by simp only[ik,an];exact rq (by simpa using h)
theorem jP{st:List Obj}: ∀ids:List Nat,(ik st ids).length=ids.length
 |[]=>rfl
 |a::ids=>by simp[ik,jP ids]
theorem iz(ρ:Nat->Option Nat): ∀l:List Obj,(gK ρ l).length=l.length
 |[]=>rfl
 |a::l=>by simp[gK,iz ρ l]
theorem oj(ρ:Nat->Option Nat): ∀(l:List Obj) (k:Nat),an (gK ρ l) k=eY ρ (an l k)
 |[],_=>rfl
 |a::l,0=>rfl
 |a::l,k+1=>by simp only[gK,an];exact oj ρ l k
theorem pG{st:List Obj}: ∀{ids:List Nat} {i j:Nat},i∈ids->j∈wR (an st i)->j∈uC st ids
 |[],_,_,h,_=>by simp at h
 |a::ids,i,j,h,hj=>by
  simp only[uC,List.mem_append]
  rcases List.mem_cons.1 h with rfl|h
  ·exact .inl hj
  ·exact .inr (pG h hj)
theorem zF(ρ:Nat->Option Nat)(o:Obj):gC (eY ρ o)=gC o:=by cases o<;>rfl
theorem Be: ∀{n i:Nat},i<n->i∈upto n
 |0,_,h=>by omega
 |n+1,i,h=>by
  simp only[upto,List.mem_append,List.mem_singleton]
  rcases Nat.lt_or_ge i n with h'|h'
  ·exact .inl (Be h')
  ·exact .inr (by omega)
theorem qP{ids:List Nat}: ∀{l:List Nat},tF ids l=true->∀i,i∈l->jt i ids 0=some i
 |[],_,_,h=>by simp at h
 | j::l,h,i,hi=>by
  simp only[tF,aa1] at h
  rcases List.mem_cons.1 hi with rfl|hi
  ·have:=h.1
   split at this
   ·rename_i k hk;rw[hk,Nat.eq_of_beq_eq_true this]
   ·cases this
  ·exact qP h.2 i hi
def Ctx.by(C:Ctx)(ids:List Nat):Ctx:={C with st:=gK (fun i=>jt i ids 0) (ik C.st ids),ι:=fun k=>C.ι (ids.getD k 0)}
theorem mb{C:Ctx}{ids:List Nat}{k i:Nat}(h:ids[k]? =some i):an (C.by ids).st k=eY (fun i=>jt i ids 0) (an C.st i)/\(C.by ids).ι k=C.ι i:=by grind [an,Ctx.by,oj,rq]
theorem mZ{C:Ctx}{ids:List Nat}:(C.by ids).st.length=ids.length:=by simp[Ctx.by,iz,jP]
theorem lR{C:Ctx}{ids:List Nat}{i j:Nat}(h:jt i ids 0=some j):bU C (C.by ids) i j:=by
 obtain⟨k,hk,hi⟩:=qS h
 obtain rfl:j=k:=by omega
 obtain⟨h1,h2⟩:=mb (C:=C) hi
 refine⟨by rw[mZ];exact(List.getElem?_eq_some_iff.1 hi).1,fun T xs hx=>?_,fun T a hx=>?_,fun K V es hx=>?_,fun r hx=>?_,fun m n ks hx=>?_,fun t hx=>?_,fun s p hx=>?_,fun K V ks vs met hx=>?_,fun T E ls pd hx=>?_⟩
 ·rw[h1,zF] at hx;exact⟨xs,hx,h2,Nat.le_refl _⟩
 ·rw[h1] at hx
  cases ho:an C.st i<;>rw[ho] at hx<;>simp[eY] at hx
  obtain⟨rfl,_⟩:=hx
  exact⟨_,rfl,h2⟩
 ·rw[h1] at hx
  cases ho:an C.st i<;>rw[ho] at hx<;>simp[eY] at hx
  obtain⟨rfl,rfl,rfl⟩:=hx
  exact⟨_,rfl,h2,fun ents clock hh=>⟨ents,clock,hh,dW.refl _ _⟩⟩
 ·rw[h1] at hx
  cases ho:an C.st i<;>rw[ho] at hx<;>simp[eY] at hx
  exact⟨_,rfl,h2⟩
 ·rw[h1] at hx
  cases ho:an C.st i<;>rw[ho] at hx<;>simp[eY] at hx
  obtain⟨_,rfl,_⟩:=hx
  exact⟨_,_,rfl,h2⟩
 ·rw[h1] at hx
  cases ho:an C.st i<;>rw[ho] at hx<;>simp[eY] at hx
  exact⟨_,rfl,h2⟩
 ·rw[h1] at hx
  cases ho:an C.st i<;>rw[ho] at hx<;>simp[eY] at hx
  obtain⟨rfl,_⟩:=hx
  exact⟨_,rfl,h2⟩
 ·rw[h1] at hx
  cases ho:an C.st i<;>rw[ho] at hx<;>simp[eY] at hx
  obtain⟨rfl,rfl,rfl,rfl,_⟩:=hx
  exact⟨_,rfl,h2⟩
 ·rw[h1] at hx
  cases ho:an C.st i<;>rw[ho] at hx<;>simp[eY] at hx
  obtain⟨rfl,rfl,rfl,_⟩:=hx
  exact⟨_,_,rfl,h2,rfl,fun _ _ _ h=>h⟩
theorem tJ{C:Ctx}(hI:Inv C){base:Nat}{roots ids:List Nat}(hok:oV base C.st roots ids=true):Inv (C.by ids)/\Ext base C (C.by ids)/\(∀i,i∈roots->∃j,jt i ids 0=some j):=by
 simp only[oV,aa1] at hok
 obtain⟨⟨⟨⟨h1,h2⟩,h3⟩,h4⟩,h5⟩:=hok
 have hnd:=kU h1
 have hk:bH C (C.by ids):=⟨rfl,fun _ h=>h,fun _ _=>rfl⟩
 have hat: ∀k,k<ids.length->∃i,ids[k]? =some i/\i<C.st.length:=fun k hk=>⟨ids[k],by simp[hk],mC h2 _ (List.getElem_mem hk)⟩
 refine⟨⟨hI.lay,fun k hk'=>?_,fun k l hk' hl hkl hok hol=>?_,hI.xs,fun k hk' hok=>?_,hI.mT,hI.kJ hk⟩,⟨hk,Nat.le_refl _,rfl,rfl,rfl,fun _ _ _=>rfl,fun b hb=> .inl hb,fun b hb=>?_,fun i hi=>lR (qP h3 i (Be hi)),fun _=> .inl ⟨rfl,rfl⟩,rfl⟩,fun i hi=>nV 0 (j7 h4 i hi)⟩
 ·rw[mZ] at hk'
  obtain⟨i,hi,hlt⟩:=hat k hk'
  obtain⟨g1,g2⟩:=mb (C:=C) hi
  rw[g1,g2]
  have hmem:i∈ids:=List.mem_iff_getElem?.2 ⟨k,hi⟩
  refine(hI.obj i hlt).move hk hI.lay _ (fun j hj hlt'=>?_) (hI.eQ i hlt) ⟨fun b ho hb=>⟨(hI.dv ⟨i,hlt,ho,hb.symm⟩).2,rfl⟩,fun _ _=>⟨Iff.rfl,fun _=>rfl⟩,dN.refl _,Nat.le_refl _,fun _ _=>rfl⟩
  obtain⟨m,hm⟩:=nV (ids:=ids) 0 (j7 h5 j (pG hmem hj))
  exact⟨m,hm,lR hm⟩
 ·rw[mZ] at hk' hl
  obtain⟨i,hi,hlt⟩:=hat k hk'
  obtain⟨j,hj,hlt'⟩:=hat l hl
  obtain⟨g1,g2⟩:=mb (C:=C) hi
  obtain⟨g3,g4⟩:=mb (C:=C) hj
  rw[g1,g2,dB] at hok
  rw[g3,g4,dB] at hol
  rw[g2,g4]
  refine hI.s8 i j hlt hlt' (fun e=>hkl ?_) hok hol
  subst e
  obtain⟨_,e1⟩:=List.getElem?_eq_some_iff.1 hi
  obtain⟨_,e2⟩:=List.getElem?_eq_some_iff.1 hj
  exact(List.getElem_inj hnd).1 (e1.trans e2.symm)
 ·rw[mZ] at hk'
  obtain⟨i,hi,hlt⟩:=hat k hk'
  obtain⟨g1,g2⟩:=mb (C:=C) hi
  rw[g1,g2,dB] at hok
  rw[g2]
  exact hI.eQ i hlt hok
 ·obtain⟨k,hk',ho,hb'⟩:=hb
  rw[mZ] at hk'
  obtain⟨i,hi,hlt⟩:=hat k hk'
  obtain⟨g1,g2⟩:=mb (C:=C) hi
  rw[g1,g2,dB] at ho
  rw[g2] at hb'
  exact .inl ⟨i,hlt,ho,hb'⟩
theorem jA(live:List (Nat×Option TypeId)): ∀(l:List AV) (n:Nat),(fM live l n).length=l.length
 |[],_=>rfl
 |a::l,n=>by simp[fM,jA live l]
theorem qJ(live:List (Nat×Option TypeId)): ∀(l:List AV) (n i:Nat),nth (fM live l n) i=nth l i\/nth (fM live l n) i= .cK
 |[],_,_=> .inl rfl
 |a::l,n,0=>by
  simp only[fM,nth]
  cases fM.memL n live
  ·exact .inr rfl
  ·exact .inl rfl
 |a::l,n,i+1=>by simp only[fM,nth];exact qJ live l (n+1) i
theorem BJ{C:Ctx}{live:List (Nat×Option TypeId)}{bg:List AV}{tmps:Array Value}(h:gm C bg tmps):gm C (fM live bg 0) tmps:=by
 refine⟨by rw[jA];exact h.1,fun i hi=>?_⟩
 rw[jA] at hi
 rcases qJ live bg 0 i with h'|h'
 ·rw[h'];exact h.2 i hi
 ·rw[h'];exact lv _
theorem zR{C:Ctx}(hI:Inv C)(T:TypeId):Inv (C.add (.row T []) ⟨C.w.heap.size,0,true⟩ C.w)/\Ext C.st.length C (C.add (.row T []) ⟨C.w.heap.size,0,true⟩ C.w):=
 fx hI (o:= .row T []) (g:=⟨C.w.heap.size,0,true⟩) (w:=C.w) rfl (Nat.le_refl _) ⟨rfl,rfl,rfl⟩ (fun _ _=>rfl) ⟨trivial, .inl ⟨rfl,rfl⟩⟩
theorem rK{C:Ctx}(T:TypeId):kH (C.add (.row T []) ⟨C.w.heap.size,0,true⟩ C.w) C.st.length 0 0 (.slice none 0 0):=by
 refine⟨fun T0 xs hx=>?_,fun _ _ _ _ hx=>(by rw[bp.1] at hx;cases hx)⟩
 grind [bp.1,gC,bp.2]
theorem iZ: ∀(live:List (Nat×Option TypeId)) {C:Ctx} {s:S} {a:Act},Inv C->db C s a->∃C',C'.w=C.w/\Inv C'/\db C' (gB live s) a/\Ext C.st.length C C'
 |[],C,s,a,hI,hs=>⟨C,rfl,hI,hs,Ext.refl C (Nat.le_refl _)⟩
 |(r,none)::l,C,s,a,hI,hs=>by simp only[gB];exact iZ l hI hs
 | (r,some T)::l,C,s,a,hI,hs=>by
  simp only[gB]
  split
  ·rename_i hr
   have hsame:a.tmps.setIfInBounds r (a.tmps.getD r undef)=a.tmps:=by
    apply Array.ext_getElem?
    intro k
    by_cases hk:r=k
    ·subst hk
     by_cases hlt':r<a.tmps.size
     ·simp[hlt']
     ·simp[hlt']
    ·rw[Array.getElem?_setIfInBounds_ne hk]
   split
   ·have hv:Rel C (.ad (T - Lu) []) (a.tmps.getD r undef):=by
     rcases Nat.lt_or_ge r s.bg.length with hlt|hge
     ·have hv:=hs.bg.2 r hlt
      rw[hr] at hv
      rw[aH hv]
      refine dV rfl rfl ?_ hI
      simp only[M]
      exact⟨trivial,none,0,rfl,Nat.le_refl _,fun h=>absurd rfl h⟩
     ·rw[jN _ _ hge] at hr;cases hr
    have hput:=hs.bg.put hv (d:=r)
    rw[hsame] at hput
    obtain⟨C',g1,g2,g3,g4⟩:=iZ l (s:={bg:=bJ s.bg r (.ad (T - Lu) []),st:=s.st}) (a:=a) hI ⟨hs.st,hput⟩
    exact⟨C',g1,g2,g3,g4⟩
   obtain⟨h1,h2⟩:=zR hI T
   have hst:=hs.step hI h2
   rcases Nat.lt_or_ge r s.bg.length with hlt|hge
   ·have hv:=hs.bg.2 r hlt
    rw[hr] at hv
    have hv':=aH hv
    have hrel:Rel (C.add (.row T []) ⟨C.w.heap.size,0,true⟩ C.w) (.aB C.st.length 0 0) (a.tmps.getD r undef):=by
     rw[hv']
     refine dV rfl rfl ?_ h1
     simp only[M]
     exact⟨by simp[Ctx.add],_,rfl,rfl,rK T⟩
    have hput:=hst.bg.put hrel (d:=r)
    rw[hsame] at hput
    obtain⟨C',g1,g2,g3,g4⟩:=iZ l (s:={bg:=bJ s.bg r (.aB s.st.length 0 0),st:=s.st++[.row T []]}) (a:=a) h1
     ⟨by simp[Ctx.add,hs.st],by rw[←hs.st];exact hput⟩
    exact⟨C',g1,g2,g3,h2.trans g4 (by simp[Ctx.add])⟩
   ·rw[jN _ _ hge] at hr;cases hr
  ·exact iZ l hI hs
theorem Hp{C:Ctx}{s:S}{a:Act}(P:Program)(i:Nat)(hI:Inv C)(hs:db C s a): ∃C',C'.w=C.w/\Inv C'/\db C' (CH P i s) a/\Ext C.st.length C C':=by
 unfold CH
 split
 ·rename_i Tb hst
  split
  ·rename_i Te _
   obtain⟨h1,h2⟩:=zR hI Te
   rw[←hs.st] at hst
   have hi:i<C.st.length:=by
    rcases Nat.lt_or_ge i C.st.length with h|h
    ·exact h
    ·rw[eh _ _ h] at hst;cases hst
   generalize hC1:C.add (.row Te []) ⟨C.w.heap.size,0,true⟩ C.w=C1 at*
   have hw1:C1.w=C.w:=by rw[←hC1];rfl
   have hl1:C1.st.length=C.st.length+1:=by rw[←hC1];simp[Ctx.add]
   have hn1:an C1.st i= .box Tb (.lit (.slice none 0 0)):=by rw[←hC1,(cu hi).1];exact hst
   have hι1:C1.ι i=C.ι i:=by rw[←hC1];exact(cu hi).2
   have hslc:kH C1 C.st.length 0 0 (.slice none 0 0):=by rw[←hC1];exact rK Te
   have hob:=h1.obj i (by omega)
   rw[hn1] at hob
   obtain⟨g1,g2,c,e,g3,g4,g5⟩:=hob
   have hr:bU C1 (C1.dC i (.box Tb (.aB C.st.length 0 0)) C1.w) i i:=jT (by omega) hn1 Tb _ rfl rfl
   have hk:bH C1 (C1.dC i (.box Tb (.aB C.st.length 0 0)) C1.w):=⟨rfl,fun _ h=>h,fun _ _=>rfl⟩
   have hupd:=gz h1 (i:=i) (by omega) (o:= .box Tb (.aB C.st.length 0 0)) (w:=C1.w) (by rw[hn1];rfl) rfl ⟨rfl,rfl,rfl⟩ (fun _ _=>rfl) hr (by
    refine⟨g1,rfl,c,e,g3,by simpa[wid] using g4,?_⟩
    simp only[M] at g5⊢
    refine⟨by simp only[Ctx.dC,aU];omega,_,g5.1,rfl,?_⟩
    refine kH.move hk (dM h1 (by omega) (by simp only[Ctx.dC,aU];omega) (bt _ _ _ _ (by omega)) rfl (fun _ _ _=>⟨rfl,rfl,rfl⟩)) hslc)
   refine⟨C1.dC i (.box Tb (.aB C.st.length 0 0)) C1.w,hw1,hupd.1,?_,h2.trans hupd.2 (by omega)⟩
   have:=(hs.step hI h2).step h1 hupd.2
   refine⟨?_,this.bg⟩
   simp only[Ctx.dC,←hC1,Ctx.add,hs.st]
   have: ∀(l m:List Obj) (i:Nat) (x:Obj),i<l.length->c9 (l++m) i x=c9 l i x++m:=by
    intro l;induction l with
    |nil=>intro m i x h;simp at h
    |cons a l ih=>
     intro m i x h
     cases i with
     |zero=>rfl
     |succ i=>simp only[List.cons_append,c9];rw[ih m i x (by simpa using h)]
   exact this _ _ _ _ (by rw[←hs.st];exact hi)
  ·exact⟨C,rfl,hI,hs,Ext.refl C (Nat.le_refl _)⟩
 ·exact⟨C,rfl,hI,hs,Ext.refl C (Nat.le_refl _)⟩
theorem nQ(P:Program): ∀(is:List Nat) {C:Ctx} {s:S} {a:Act},Inv C->db C s a->∃C',C'.w=C.w/\Inv C'/\db C' (nM P is s) a/\Ext C.st.length C C'
 |[],C,s,a,hI,hs=>⟨C,rfl,hI,hs,Ext.refl C (Nat.le_refl _)⟩
 |i::is,C,s,a,hI,hs=>by
  simp only[nM]
  obtain⟨C1,g1,g2,g3,g4⟩:=Hp P i hI hs
  obtain⟨C2,g5,g6,g7,g8⟩:=nQ P is g2 g3
  refine⟨C2,g5.trans g1,g6,g7,g4.trans g8 ?_⟩
  rcases Nat.eq_zero_or_pos C.st.length with h|h
  ·omega
  ·have:=(g4.refs (C.st.length - 1) (by omega)).lt;omega
theorem Bx: ∀(l:List AV) (j k:Nat),nth l j= .lit (.slice none 0 0)->eH (bJ l j (.aB k 0 0))=eH l
 |[],_,_,h=>by simp[nth] at h
 |a::l,0,k,h=>by
  simp only[nth] at h
  subst h;rfl
 |a::l,j+1,k,h=>by
  simp only[nth] at h
  simp only[bJ,eH,Bx l j k h]
theorem v8: ∀(l:List AV) (j k:Nat),dA l=true->dA (bJ l j (.aB k 0 0))=true
 |[],_,_,_=>rfl
 |a::l,0,k,h=>by
  simp only[dA,aa1,bJ] at h⊢
  exact⟨rfl,h.2⟩
 |a::l,j+1,k,h=>by
  simp only[dA,aa1,bJ] at h⊢
  exact⟨h.1,v8 l j k h.2⟩
theorem D0{C:Ctx}{k:Nat}(hk:k<C.st.length)(hs:kH C k 0 0 (.slice none 0 0)): ∀(l:List AV) (j:Nat) (s:Src) (o:Nat),nth l j= .lit (.slice none 0 0)->ML C l s o->ML C (bJ l j (.aB k 0 0)) s o
 |[],_,_,_,h,_=>by simp[nth] at h
 |a::l,0,s,o,h,hm=>by
  simp only[nth] at h
  subst h
  simp only[bJ,ML,M,wid] at hm⊢
  exact⟨⟨hk,_,hm.1.1,rfl,hs⟩,hm.2⟩
 |a::l,j+1,s,o,h,hm=>by
  simp only[nth] at h
  simp only[bJ,ML] at hm⊢
  exact⟨hm.1,D0 hk hs l j s _ h hm.2⟩
theorem Bo: ∀(l m:List Obj) (i:Nat) (x:Obj),i<l.length->c9 (l++m) i x=c9 l i x++m
 |[],_,_,_,h=>by simp at h
 |a::l,m,0,x,_=>rfl
 |a::l,m,i+1,x,h=>by
  simp only[List.cons_append,c9]
  rw[Bo l m i x (by simpa using h)]
theorem Nq{C:Ctx}(hI:Inv C)(i j:Nat)(T:TypeId): ∃C',C'.w=C.w/\C'.P=C.P/\Inv C'/\C'.st=OG i j T C.st/\Ext C.st.length C C':=by
 unfold OG
 split
 ·rename_i Tb fs hst
  split
  ·rename_i hf
   obtain⟨h1,h2⟩:=zR hI T
   have hi:i<C.st.length:=by
    rcases Nat.lt_or_ge i C.st.length with h|h
    ·exact h
    ·rw[eh _ _ h] at hst;cases hst
   generalize hC1:C.add (.row T []) ⟨C.w.heap.size,0,true⟩ C.w=C1 at*
   have hw1:C1.w=C.w:=by rw[←hC1];rfl
   have hP1:C1.P=C.P:=by rw[←hC1];rfl
   have hl1:C1.st.length=C.st.length+1:=by rw[←hC1];simp[Ctx.add]
   have hn1:an C1.st i= .box Tb (.agg fs):=by rw[←hC1,(cu hi).1];exact hst
   have hslc:kH C1 C.st.length 0 0 (.slice none 0 0):=by rw[←hC1];exact rK T
   have hob:=h1.obj i (by omega)
   rw[hn1] at hob
   obtain⟨g1,g2,c,e,g3,g4,g5⟩:=hob
   have hr:bU C1 (C1.dC i (.box Tb (.agg (bJ fs j (.aB C.st.length 0 0)))) C1.w) i i:=jT (by omega) hn1 Tb _ rfl rfl
   have hk:bH C1 (C1.dC i (.box Tb (.agg (bJ fs j (.aB C.st.length 0 0)))) C1.w):=⟨rfl,fun _ h=>h,fun _ _=>rfl⟩
   have hlen:(C1.dC i (.box Tb (.agg (bJ fs j (.aB C.st.length 0 0)))) C1.w).st.length=C1.st.length:=aU _ _ _
   have hrefs: ∀q,q<C1.st.length->bU C1 (C1.dC i (.box Tb (.agg (bJ fs j (.aB C.st.length 0 0)))) C1.w) q q:=fun q hq=>by
    by_cases hqi:i=q
    ·subst hqi;exact hr
    ·exact dM h1 hq (by omega) (bt _ _ _ _ hqi) rfl (fun _ _ _=>⟨rfl,rfl,rfl⟩)
   have hslc':=kH.move hk (hrefs C.st.length (by omega)) hslc
   have hupd:=gz h1 (i:=i) (by omega) (o:= .box Tb (.agg (bJ fs j (.aB C.st.length 0 0)))) (w:=C1.w) (by rw[hn1];rfl) rfl ⟨rfl,rfl,rfl⟩ (fun _ _=>rfl) hr (by
    refine⟨g1,by simp only[cQ] at g2⊢;exact v8 _ _ _ g2,c,e,g3,by simpa[wid,Bx _ _ _ hf] using g4,?_⟩
    simp only[M] at g5⊢
    refine D0 (by rw[hlen];omega) hslc' fs j _ _ hf ?_
    have:=yy hk h1.lay some fs _ _ 0 0 (fun q hq hql=>⟨q,rfl,hrefs q hql⟩) (fun _ _=>rfl) g5
    rwa [fq] at this)
   refine⟨C1.dC i (.box Tb (.agg (bJ fs j (.aB C.st.length 0 0)))) C1.w,hw1,hP1,hupd.1,?_,h2.trans hupd.2 (by omega)⟩
   simp only[Ctx.dC]
   rw[←hC1]
   exact Bo _ _ _ _ hi
  ·exact⟨C,rfl,rfl,hI,rfl,Ext.refl C (Nat.le_refl _)⟩
 ·exact⟨C,rfl,rfl,hI,rfl,Ext.refl C (Nat.le_refl _)⟩
theorem qT: ∀(l:List (Nat×Nat×TypeId)) {C:Ctx},Inv C->∃C',C'.w=C.w/\C'.P=C.P/\Inv C'/\C'.st=o5 l C.st/\Ext C.st.length C C'
 |[],C,hI=>⟨C,rfl,rfl,hI,rfl,Ext.refl C (Nat.le_refl _)⟩
 |(i,j,T)::l,C,hI=>by
  obtain⟨C1,a1,a2,a3,a4,a5⟩:=Nq hI i j T
  obtain⟨C2,b1,b2,b3,b4,b5⟩:=qT l a3
  refine⟨C2,b1.trans a1,b2.trans a2,b3,by rw[b4,a4];rfl,a5.trans b5 ?_⟩
  rcases Nat.eq_zero_or_pos C.st.length with h|h
  ·omega
  ·have:=(a5.refs (C.st.length - 1) (by omega)).lt;omega
theorem Dr(l:List (Nat×Nat×TypeId)){C:Ctx}{s:S}{a:Act}(hI:Inv C)(hs:db C s a): ∃C',C'.w=C.w/\Inv C'/\db C' (zZ l s) a/\Ext C.st.length C C':=by
 have key: ∃C',C'.w=C.w/\Inv C'/\db C' {s with st:=o5 l s.st} a/\Ext C.st.length C C':=by
  obtain⟨C',h1,_,h3,h4,h5⟩:=qT l hI
  refine⟨C',h1,h3,?_,h5⟩
  have:=hs.step hI h5
  exact⟨by rw[h4,hs.st],this.bg⟩
 unfold zZ
 grind [Ext.refl]
theorem tQ{C:Ctx}{s:S}{a:Act}(P:Program)(live:List (Nat×Option TypeId)){base:Nat}(hI:Inv C)(hs:db C s a)(hb:base<=s.st.length)(hok:ji P live base s=true):
  ∃C',C'.w=C.w/\Inv C'/\db C' (canon P live base s) a/\Ext base C C'/\base<=(canon P live base s).st.length:=by
 obtain⟨C1,g1,g2,g3,g4⟩:=iZ live hI (s:={s with bg:=fM live s.bg 0}) ⟨hs.st,BJ hs.bg⟩
 obtain⟨C3,g9,ga,gb,gc⟩:=nQ P (upto (gB live {s with bg:=fM live s.bg 0}).st.length) g2 g3
 obtain⟨C2,gd,g6,g7,ge⟩:=Dr (zS live) ga gb
 have g5:C2.w=C1.w:=gd.trans g9
 have g8:Ext C1.st.length C1 C2:=gc.trans ge (by
  rcases Nat.eq_zero_or_pos C1.st.length with h|h
  ·omega
  ·have:=(gc.refs (C1.st.length - 1) (by omega)).lt;omega)
 have hpre:db C2 (gO P live s) a:=g7
 unfold ji at hok
 rw[←hpre.st] at hok
 obtain⟨h1,h2,h3⟩:=tJ g6 hok
 have hl1:C.st.length<=C1.st.length:=by
  rcases Nat.eq_zero_or_pos C.st.length with h|h
  ·omega
  ·have:=(g4.refs (C.st.length - 1) (by omega)).lt;omega
 have hl2:C1.st.length<=C2.st.length:=by
  rcases Nat.eq_zero_or_pos C1.st.length with h|h
  ·omega
  ·have:=(g8.refs (C1.st.length - 1) (by omega)).lt;omega
 have hsl:s.st.length=C.st.length:=by rw[hs.st]
 refine⟨C2.by (gV base C2.st (cW (gO P live s).bg)),g5.trans g1,h1,?_,(g4.mono (by omega)).trans ((g8.mono (by omega)).trans h2 (Nat.le_refl _)) (Nat.le_refl _),?_⟩
 ·refine⟨?_,?_⟩
  ·simp only[canon,tr,Ctx.by,hpre.st]
  ·simp only[canon,tr]
   rw[←hpre.st]
   exact hpre.bg.move h2.keeps g6.lay _ (fun i hi _=>by obtain⟨j,hj⟩:=h3 i hi;exact⟨j,hj,lR hj⟩)
 ·have hrefs:=h2.refs
  have e:(canon P live base s).st.length=(C2.by (gV base C2.st (cW (gO P live s).bg))).st.length:=by
   simp only[canon,tr,Ctx.by,hpre.st]
  rw[e]
  rcases Nat.eq_zero_or_pos base with h|h
  ·omega
  ·have:=(hrefs (base - 1) (by omega)).lt;omega
end Go.Dn
