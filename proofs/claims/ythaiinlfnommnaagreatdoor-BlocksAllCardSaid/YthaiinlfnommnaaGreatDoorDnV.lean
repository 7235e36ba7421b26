import Derived.Test.YthaiinlfnommnaaGreatDoorDnU
namespace Go.Dn
open Go
theorem kL: ∀(l:List Nat) (i:Nat),jH i l=true↔i∈l
 |[],i=>by simp[jH]
 |j::l,i=>by simp[jH,kL l i,Nat.beq_eq]
theorem kM{ids:List Nat}: ∀{l:List Nat},Cp ids l=true->∀i,i∈l->i∈ids
 |[],_,i,h=>by simp at h
 |j::l,h,i,hi=>by
  simp only[Cp,aa3] at h
  rcases List.mem_cons.1 hi with rfl|hi
  ·exact(kL _ _).1 h.1
  ·exact kM h.2 i hi
theorem my{n:Nat}: ∀{l:List Nat},FV n l=true->∀i,i∈l->i<n
 |[],_,i,h=>by simp at h
 |j::l,h,i,hi=>by
  simp only[FV,aa3,aa2] at h
  rcases List.mem_cons.1 hi with rfl|hi
  ·exact h.1
  ·exact my h.2 i hi
theorem lJ: ∀{l:List Nat},z8 l=true->l.Nodup
 |[],_=>by simp
 |j::l,h=>by
  simp only[z8,aa3,Bool.not_eq_true'] at h
  rw[List.nodup_cons]
  exact⟨fun hm=>by rw[(kL _ _).2 hm] at h;simp at h,lJ h.2⟩
theorem qV: ∀{ids:List Nat} {i n j:Nat},jU i ids n=some j->∃k,j=n+k/\ids[k]? =some i
 |[],_,_,_,h=>by simp[jU] at h
 | a::ids,i,n,j,h=>by
  simp only[jU] at h
  cases hb:Nat.beq i a with
  |true=>
   rw[hb] at h
   simp only[aa9,aa5] at h
   exact⟨0,by omega,by simp[Nat.eq_of_beq_eq_true hb]⟩
  |false=>
   rw[hb] at h
   simp only[aa7] at h
   obtain⟨k,h1,h2⟩:=qV h
   exact⟨k+1,by omega,by simpa using h2⟩
theorem nR: ∀{ids:List Nat} {i:Nat} (n:Nat),i∈ids->∃j,jU i ids n=some j
 |[],_,_,h=>by simp at h
 | a::ids,i,n,h=>by
  simp only[jU]
  cases hb:Nat.beq i a with
  |true=>exact⟨n,rfl⟩
  |false=>
   simp only[aa7]
   rcases List.mem_cons.1 h with rfl|h
   ·rw[Nat.beq_refl] at hb;cases hb
   ·exact nR (n+1) h
theorem r9{st:List Obj}: ∀{ids:List Nat} {k i:Nat},ids[k]? =some i->az (gU st ids) k=az st i
 |[],_,_,h=>by simp at h
 |a::ids,0,i,h=>by simp at h;subst h;rfl
 |a::ids,k+1,i,h=>by simp only[gU,az];exact r9 (by simpa using h)
theorem kc{st:List Obj}: ∀ids:List Nat,(gU st ids).length=ids.length
 |[]=>rfl
 |a::ids=>by simp[gU,kc ids]
theorem jh(ρ:Nat->Option Nat): ∀l:List Obj,(gH ρ l).length=l.length
 |[]=>rfl
 |a::l=>by simp[gH,jh ρ l]
theorem o6(ρ:Nat->Option Nat): ∀(l:List Obj) (k:Nat),az (gH ρ l) k=fj ρ (az l k)
 |[],_=>rfl
 |a::l,0=>rfl
 |a::l,k+1=>by simp only[gH,az];exact o6 ρ l k
theorem ql{st:List Obj}: ∀{ids:List Nat} {i j:Nat},i∈ids->j∈yg (az st i)->j∈vu st ids
 |[],_,_,h,_=>by simp at h
 |a::ids,i,j,h,hj=>by
  simp only[vu,List.mem_append]
  rcases List.mem_cons.1 h with rfl|h
  ·exact .inl hj
  ·exact .inr (ql h hj)
theorem Am(ρ:Nat->Option Nat)(o:Obj):ia (fj ρ o)=ia o:=by cases o<;>rfl
theorem Co: ∀{n i:Nat},i<n->i∈upto n
 |0,_,h=>by omega
 |n+1,i,h=>by
  simp only[upto,List.mem_append,List.mem_singleton]
  rcases Nat.lt_or_ge i n with h'|h'
  ·exact .inl (Co h')
  ·exact .inr (by omega)
theorem rj{ids:List Nat}: ∀{l:List Nat},tR ids l=true->∀i,i∈l->jU i ids 0=some i
 |[],_,_,h=>by simp at h
 | j::l,h,i,hi=>by
  simp only[tR,aa3] at h
  rcases List.mem_cons.1 hi with rfl|hi
  ·have:=h.1
   split at this
   ·rename_i k hk;rw[hk,Nat.eq_of_beq_eq_true this]
   ·cases this
  ·exact rj h.2 i hi
def Ctx.by(C:Ctx)(ids:List Nat):Ctx:={C with st:=gH (fun i=>jU i ids 0) (gU C.st ids),ι:=fun k=>C.ι (ids.getD k 0)}
theorem mN{C:Ctx}{ids:List Nat}{k i:Nat}(h:ids[k]? =some i):az (C.by ids).st k=fj (fun i=>jU i ids 0) (az C.st i)/\(C.by ids).ι k=C.ι i:=by
 refine⟨?_,?_⟩
 ·simp only[Ctx.by];rw[o6,r9 h]
 ·simp only[Ctx.by];rw[List.getD_eq_getElem?_getD,h];rfl
theorem nI{C:Ctx}{ids:List Nat}:(C.by ids).st.length=ids.length:=by simp[Ctx.by,jh,kc]
theorem mi{C:Ctx}{ids:List Nat}{i j:Nat}(h:jU i ids 0=some j):ck C (C.by ids) i j:=by
 obtain⟨k,hk,hi⟩:=qV h
 obtain rfl:j=k:=by omega
 obtain⟨h1,h2⟩:=mN (C:=C) hi
 refine⟨by rw[nI];exact(List.getElem?_eq_some_iff.1 hi).1,fun T xs hx=>?_,fun T a hx=>?_,fun K V es hx=>?_,fun r hx=>?_,fun m n ks hx=>?_,fun t hx=>?_,fun s p hx=>?_,fun K V ks vs met hx=>?_,fun T E ls pd hx=>?_⟩
 ·rw[h1,Am] at hx;exact⟨xs,hx,h2,Nat.le_refl _⟩
 ·rw[h1] at hx
  cases ho:az C.st i<;>rw[ho] at hx<;>simp[fj] at hx
  obtain⟨rfl,_⟩:=hx
  exact⟨_,rfl,h2⟩
 ·rw[h1] at hx
  cases ho:az C.st i<;>rw[ho] at hx<;>simp[fj] at hx
  obtain⟨rfl,rfl,rfl⟩:=hx
  exact⟨_,rfl,h2,fun ents clock hh=>⟨ents,clock,hh,ee.refl _ _⟩⟩
 ·rw[h1] at hx
  cases ho:az C.st i<;>rw[ho] at hx<;>simp[fj] at hx
  exact⟨_,rfl,h2⟩
 ·rw[h1] at hx
  cases ho:az C.st i<;>rw[ho] at hx<;>simp[fj] at hx
  obtain⟨_,rfl,_⟩:=hx
  exact⟨_,_,rfl,h2⟩
 ·rw[h1] at hx
  cases ho:az C.st i<;>rw[ho] at hx<;>simp[fj] at hx
  exact⟨_,rfl,h2⟩
 ·rw[h1] at hx
  cases ho:az C.st i<;>rw[ho] at hx<;>simp[fj] at hx
  obtain⟨rfl,_⟩:=hx
  exact⟨_,rfl,h2⟩
 ·rw[h1] at hx
  cases ho:az C.st i<;>rw[ho] at hx<;>simp[fj] at hx
  obtain⟨rfl,rfl,rfl,rfl,_⟩:=hx
  exact⟨_,rfl,h2⟩
 ·rw[h1] at hx
  cases ho:az C.st i<;>rw[ho] at hx<;>simp[fj] at hx
  obtain⟨rfl,rfl,rfl,_⟩:=hx
  exact⟨_,_,rfl,h2,rfl,fun _ _ _ h=>h⟩
theorem uN{C:Ctx}(hI:Inv C){base:Nat}{roots ids:List Nat}(hok:pt base C.st roots ids=true):Inv (C.by ids)/\Ext base C (C.by ids)/\(∀i,i∈roots->∃j,jU i ids 0=some j):=by
 simp only[pt,aa3] at hok
 obtain⟨⟨⟨⟨h1,h2⟩,h3⟩,h4⟩,h5⟩:=hok
 have hnd:=lJ h1
 have hk:b8 C (C.by ids):=⟨rfl,fun _ h=>h,fun _ _=>rfl⟩
 have hat: ∀k,k<ids.length->∃i,ids[k]? =some i/\i<C.st.length:=fun k hk=>⟨ids[k],by simp[hk],my h2 _ (List.getElem_mem hk)⟩
 refine⟨⟨hI.lay,fun k hk'=>?_,fun k l hk' hl hkl hok hol=>?_,hI.xs,fun k hk' hok=>?_,hI.pb,hI.mq hk⟩,⟨hk,Nat.le_refl _,rfl,rfl,rfl,fun _ _ _=>rfl,fun b hb=> .inl hb,fun b hb=>?_,fun i hi=>mi (rj h3 i (Co hi)),fun _=> .inl ⟨rfl,rfl⟩,rfl⟩,fun i hi=>nR 0 (kM h4 i hi)⟩
 ·rw[nI] at hk'
  obtain⟨i,hi,hlt⟩:=hat k hk'
  obtain⟨g1,g2⟩:=mN (C:=C) hi
  rw[g1,g2]
  have hmem:i∈ids:=List.mem_iff_getElem?.2 ⟨k,hi⟩
  refine(hI.obj i hlt).move hk hI.lay _ (fun j hj hlt'=>?_) (hI.fu i hlt) ⟨fun b ho hb=>⟨(hI.dK ⟨i,hlt,ho,hb.symm⟩).2,rfl⟩,fun _ _=>⟨Iff.rfl,fun _=>rfl⟩,ea.refl _,Nat.le_refl _,fun _ _=>rfl⟩
  obtain⟨m,hm⟩:=nR (ids:=ids) 0 (kM h5 j (ql hmem hj))
  exact⟨m,hm,mi hm⟩
 ·rw[nI] at hk' hl
  obtain⟨i,hi,hlt⟩:=hat k hk'
  obtain⟨j,hj,hlt'⟩:=hat l hl
  obtain⟨g1,g2⟩:=mN (C:=C) hi
  obtain⟨g3,g4⟩:=mN (C:=C) hj
  rw[g1,g2,dN] at hok
  rw[g3,g4,dN] at hol
  rw[g2,g4]
  refine hI.sI i j hlt hlt' (fun e=>hkl ?_) hok hol
  subst e
  obtain⟨_,e1⟩:=List.getElem?_eq_some_iff.1 hi
  obtain⟨_,e2⟩:=List.getElem?_eq_some_iff.1 hj
  exact(List.getElem_inj hnd).1 (e1.trans e2.symm)
 ·rw[nI] at hk'
  obtain⟨i,hi,hlt⟩:=hat k hk'
  obtain⟨g1,g2⟩:=mN (C:=C) hi
  rw[g1,g2,dN] at hok
  rw[g2]
  exact hI.fu i hlt hok
 ·obtain⟨k,hk',ho,hb'⟩:=hb
  rw[nI] at hk'
  obtain⟨i,hi,hlt⟩:=hat k hk'
  obtain⟨g1,g2⟩:=mN (C:=C) hi
  rw[g1,g2,dN] at ho
  rw[g2] at hb'
  exact .inl ⟨i,hlt,ho,hb'⟩
theorem jT(live:List (Nat×Option TypeId)): ∀(l:List AV) (n:Nat),(fS live l n).length=l.length
 |[],_=>rfl
 |a::l,n=>by simp[fS,jT live l]
theorem qy(live:List (Nat×Option TypeId)): ∀(l:List AV) (n i:Nat),nth (fS live l n) i=nth l i\/nth (fS live l n) i= .cP
 |[],_,_=> .inl rfl
 |a::l,n,0=>by
  simp only[fS,nth]
  cases fS.memL n live
  ·exact .inr rfl
  ·exact .inl rfl
 |a::l,n,i+1=>by simp only[fS,nth];exact qy live l (n+1) i
theorem B2{C:Ctx}{live:List (Nat×Option TypeId)}{bt:List AV}{tmps:Array Value}(h:gJ C bt tmps):gJ C (fS live bt 0) tmps:=by
 refine⟨by rw[jT];exact h.1,fun i hi=>?_⟩
 rw[jT] at hi
 rcases qy live bt 0 i with h'|h'
 ·rw[h'];exact h.2 i hi
 ·rw[h'];exact mo _
theorem AL{C:Ctx}(hI:Inv C)(T:TypeId):Inv (C.add (.row T []) ⟨C.w.heap.size,0,true⟩ C.w)/\Ext C.st.length C (C.add (.row T []) ⟨C.w.heap.size,0,true⟩ C.w):=
 gL hI (o:= .row T []) (g:=⟨C.w.heap.size,0,true⟩) (w:=C.w) rfl (Nat.le_refl _) ⟨rfl,rfl,rfl⟩ (fun _ _=>rfl) ⟨trivial, .inl ⟨rfl,rfl⟩⟩
theorem sf{C:Ctx}(T:TypeId):lF (C.add (.row T []) ⟨C.w.heap.size,0,true⟩ C.w) C.st.length 0 0 (.slice none 0 0):=by
 refine⟨fun T0 xs hx=>?_,fun _ _ _ _ hx=>(by rw[bC.1] at hx;cases hx)⟩
 rw[bC.1] at hx
 simp only[ia,aa5,ab1] at hx
 obtain⟨rfl,rfl⟩:=hx
 rw[bC.2]
 exact⟨by simp, .inl ⟨rfl,rfl,rfl,rfl⟩⟩
theorem kH: ∀(live:List (Nat×Option TypeId)) {C:Ctx} {s:S} {a:Act},Inv C->dv C s a->∃C',C'.w=C.w/\Inv C'/\dv C' (ki live s) a/\Ext C.st.length C C'
 |[],C,s,a,hI,hs=>⟨C,rfl,hI,hs,Ext.refl C (Nat.le_refl _)⟩
 |(r,none)::l,C,s,a,hI,hs=>by simp only[ki];exact kH l hI hs
 | (r,some T)::l,C,s,a,hI,hs=>by
  simp only[ki]
  split
  ·rename_i hr
   have hsame:a.tmps.setIfInBounds r (a.tmps.getD r undef)=a.tmps:=by
    apply Array.ext_getElem?
    intro k
    by_cases hk:r=k
    ·subst hk
     by_cases hlt':r<a.tmps.size
     ·simp[hlt']
     ·simp[hlt']
    ·rw[Array.getElem?_setIfInBounds_ne hk]
   split
   ·have hv:Rel C (.ad (T - OV) []) (a.tmps.getD r undef):=by
     rcases Nat.lt_or_ge r s.bt.length with hlt|hge
     ·have hv:=hs.bt.2 r hlt
      rw[hr] at hv
      rw[aV hv]
      refine eM rfl rfl ?_ hI
      simp only[M]
      exact⟨trivial,none,0,rfl,Nat.le_refl _,fun h=>absurd rfl h⟩
     ·rw[nj _ _ hge] at hr;cases hr
    have hput:=hs.bt.put hv (d:=r)
    rw[hsame] at hput
    obtain⟨C',g1,g2,g3,g4⟩:=kH l (s:={bt:=cm s.bt r (.ad (T - OV) []),st:=s.st}) (a:=a) hI ⟨hs.st,hput⟩
    exact⟨C',g1,g2,g3,g4⟩
   obtain⟨h1,h2⟩:=AL hI T
   have hst:=hs.step hI h2
   rcases Nat.lt_or_ge r s.bt.length with hlt|hge
   ·have hv:=hs.bt.2 r hlt
    rw[hr] at hv
    have hv':=aV hv
    have hrel:Rel (C.add (.row T []) ⟨C.w.heap.size,0,true⟩ C.w) (.ar C.st.length 0 0) (a.tmps.getD r undef):=by
     rw[hv']
     refine eM rfl rfl ?_ h1
     simp only[M]
     exact⟨by simp[Ctx.add],_,rfl,rfl,sf T⟩
    have hput:=hst.bt.put hrel (d:=r)
    rw[hsame] at hput
    obtain⟨C',g1,g2,g3,g4⟩:=kH l (s:={bt:=cm s.bt r (.ar s.st.length 0 0),st:=s.st++[.row T []]}) (a:=a) h1
     ⟨by simp[Ctx.add,hs.st],by rw[←hs.st];exact hput⟩
    exact⟨C',g1,g2,g3,h2.trans g4 (by simp[Ctx.add])⟩
   ·rw[nj _ _ hge] at hr;cases hr
  ·exact kH l hI hs
theorem Jc{C:Ctx}{s:S}{a:Act}(P:Program)(i:Nat)(hI:Inv C)(hs:dv C s a): ∃C',C'.w=C.w/\Inv C'/\dv C' (DJ P i s) a/\Ext C.st.length C C':=by
 unfold DJ
 split
 ·rename_i Tb hst
  split
  ·rename_i Te _
   obtain⟨h1,h2⟩:=AL hI Te
   rw[←hs.st] at hst
   have hi:i<C.st.length:=by
    rcases Nat.lt_or_ge i C.st.length with h|h
    ·exact h
    ·rw[eD _ _ h] at hst;cases hst
   generalize hC1:C.add (.row Te []) ⟨C.w.heap.size,0,true⟩ C.w=C1 at*
   have hw1:C1.w=C.w:=by rw[←hC1];rfl
   have hl1:C1.st.length=C.st.length+1:=by rw[←hC1];simp[Ctx.add]
   have hn1:az C1.st i= .box Tb (.lit (.slice none 0 0)):=by rw[←hC1,(cW hi).1];exact hst
   have hι1:C1.ι i=C.ι i:=by rw[←hC1];exact(cW hi).2
   have hslc:lF C1 C.st.length 0 0 (.slice none 0 0):=by rw[←hC1];exact sf Te
   have hob:=h1.obj i (by omega)
   rw[hn1] at hob
   obtain⟨g1,g2,c,e,g3,g4,g5⟩:=hob
   have hr:ck C1 (C1.dO i (.box Tb (.ar C.st.length 0 0)) C1.w) i i:=ke (by omega) hn1 Tb _ rfl rfl
   have hk:b8 C1 (C1.dO i (.box Tb (.ar C.st.length 0 0)) C1.w):=⟨rfl,fun _ h=>h,fun _ _=>rfl⟩
   have hupd:=gR h1 (i:=i) (by omega) (o:= .box Tb (.ar C.st.length 0 0)) (w:=C1.w) (by rw[hn1];rfl) rfl ⟨rfl,rfl,rfl⟩ (fun _ _=>rfl) hr (by
    refine⟨g1,rfl,c,e,g3,by simpa[wid] using g4,?_⟩
    simp only[M] at g5⊢
    refine⟨by simp only[Ctx.dO,a0];omega,_,g5.1,rfl,?_⟩
    refine lF.move hk (ej h1 (by omega) (by simp only[Ctx.dO,a0];omega) (bF _ _ _ _ (by omega)) rfl (fun _ _ _=>⟨rfl,rfl,rfl⟩)) hslc)
   refine⟨C1.dO i (.box Tb (.ar C.st.length 0 0)) C1.w,hw1,hupd.1,?_,h2.trans hupd.2 (by omega)⟩
   have:=(hs.step hI h2).step h1 hupd.2
   refine⟨?_,this.bt⟩
   simp only[Ctx.dO,←hC1,Ctx.add,hs.st]
   have: ∀(l m:List Obj) (i:Nat) (x:Obj),i<l.length->dj (l++m) i x=dj l i x++m:=by
    intro l;induction l with
    |nil=>intro m i x h;simp at h
    |cons a l ih=>
     intro m i x h
     cases i with
     |zero=>rfl
     |succ i=>simp only[List.cons_append,dj];rw[ih m i x (by simpa using h)]
   exact this _ _ _ _ (by rw[←hs.st];exact hi)
  ·exact⟨C,rfl,hI,hs,Ext.refl C (Nat.le_refl _)⟩
 ·exact⟨C,rfl,hI,hs,Ext.refl C (Nat.le_refl _)⟩
theorem nU(P:Program): ∀(is:List Nat) {C:Ctx} {s:S} {a:Act},Inv C->dv C s a->∃C',C'.w=C.w/\Inv C'/\dv C' (nZ P is s) a/\Ext C.st.length C C'
 |[],C,s,a,hI,hs=>⟨C,rfl,hI,hs,Ext.refl C (Nat.le_refl _)⟩
 |i::is,C,s,a,hI,hs=>by
  simp only[nZ]
  obtain⟨C1,g1,g2,g3,g4⟩:=Jc P i hI hs
  obtain⟨C2,g5,g6,g7,g8⟩:=nU P is g2 g3
  refine⟨C2,g5.trans g1,g6,g7,g4.trans g8 ?_⟩
  rcases Nat.eq_zero_or_pos C.st.length with h|h
  ·omega
  ·have:=(g4.refs (C.st.length - 1) (by omega)).lt;omega
theorem B9: ∀(l:List AV) (j k:Nat),nth l j= .lit (.slice none 0 0)->eU (cm l j (.ar k 0 0))=eU l
 |[],_,_,h=>by simp[nth] at h
 |a::l,0,k,h=>by
  simp only[nth] at h
  subst h;rfl
 |a::l,j+1,k,h=>by
  simp only[nth] at h
  simp only[cm,eU,B9 l j k h]
theorem wy: ∀(l:List AV) (j k:Nat),dM l=true->dM (cm l j (.ar k 0 0))=true
 |[],_,_,_=>rfl
 |a::l,0,k,h=>by
  simp only[dM,aa3,cm] at h⊢
  exact⟨rfl,h.2⟩
 |a::l,j+1,k,h=>by
  simp only[dM,aa3,cm] at h⊢
  exact⟨h.1,wy l j k h.2⟩
theorem Gh{C:Ctx}{k:Nat}(hk:k<C.st.length)(hs:lF C k 0 0 (.slice none 0 0)): ∀(l:List AV) (j:Nat) (s:Src) (o:Nat),nth l j= .lit (.slice none 0 0)->ML C l s o->ML C (cm l j (.ar k 0 0)) s o
 |[],_,_,_,h,_=>by simp[nth] at h
 |a::l,0,s,o,h,hm=>by
  simp only[nth] at h
  subst h
  simp only[cm,ML,M,wid] at hm⊢
  exact⟨⟨hk,_,hm.1.1,rfl,hs⟩,hm.2⟩
 |a::l,j+1,s,o,h,hm=>by
  simp only[nth] at h
  simp only[cm,ML] at hm⊢
  exact⟨hm.1,Gh hk hs l j s _ h hm.2⟩
theorem Cg: ∀(l m:List Obj) (i:Nat) (x:Obj),i<l.length->dj (l++m) i x=dj l i x++m
 |[],_,_,_,h=>by simp at h
 |a::l,m,0,x,_=>rfl
 |a::l,m,i+1,x,h=>by
  simp only[List.cons_append,dj]
  rw[Cg l m i x (by simpa using h)]
theorem Oz{C:Ctx}(hI:Inv C)(i j:Nat)(T:TypeId): ∃C',C'.w=C.w/\C'.P=C.P/\Inv C'/\C'.st=QS i j T C.st/\Ext C.st.length C C':=by
 unfold QS
 split
 ·rename_i Tb fs hst
  split
  ·rename_i hf
   obtain⟨h1,h2⟩:=AL hI T
   have hi:i<C.st.length:=by
    rcases Nat.lt_or_ge i C.st.length with h|h
    ·exact h
    ·rw[eD _ _ h] at hst;cases hst
   generalize hC1:C.add (.row T []) ⟨C.w.heap.size,0,true⟩ C.w=C1 at*
   have hw1:C1.w=C.w:=by rw[←hC1];rfl
   have hP1:C1.P=C.P:=by rw[←hC1];rfl
   have hl1:C1.st.length=C.st.length+1:=by rw[←hC1];simp[Ctx.add]
   have hn1:az C1.st i= .box Tb (.agg fs):=by rw[←hC1,(cW hi).1];exact hst
   have hslc:lF C1 C.st.length 0 0 (.slice none 0 0):=by rw[←hC1];exact sf T
   have hob:=h1.obj i (by omega)
   rw[hn1] at hob
   obtain⟨g1,g2,c,e,g3,g4,g5⟩:=hob
   have hr:ck C1 (C1.dO i (.box Tb (.agg (cm fs j (.ar C.st.length 0 0)))) C1.w) i i:=ke (by omega) hn1 Tb _ rfl rfl
   have hk:b8 C1 (C1.dO i (.box Tb (.agg (cm fs j (.ar C.st.length 0 0)))) C1.w):=⟨rfl,fun _ h=>h,fun _ _=>rfl⟩
   have hlen:(C1.dO i (.box Tb (.agg (cm fs j (.ar C.st.length 0 0)))) C1.w).st.length=C1.st.length:=a0 _ _ _
   have hrefs: ∀q,q<C1.st.length->ck C1 (C1.dO i (.box Tb (.agg (cm fs j (.ar C.st.length 0 0)))) C1.w) q q:=fun q hq=>by
    by_cases hqi:i=q
    ·subst hqi;exact hr
    ·exact ej h1 hq (by omega) (bF _ _ _ _ hqi) rfl (fun _ _ _=>⟨rfl,rfl,rfl⟩)
   have hslc':=lF.move hk (hrefs C.st.length (by omega)) hslc
   have hupd:=gR h1 (i:=i) (by omega) (o:= .box Tb (.agg (cm fs j (.ar C.st.length 0 0)))) (w:=C1.w) (by rw[hn1];rfl) rfl ⟨rfl,rfl,rfl⟩ (fun _ _=>rfl) hr (by
    refine⟨g1,by simp only[cZ] at g2⊢;exact wy _ _ _ g2,c,e,g3,by simpa[wid,B9 _ _ _ hf] using g4,?_⟩
    simp only[M] at g5⊢
    refine Gh (by rw[hlen];omega) hslc' fs j _ _ hf ?_
    have:=AD hk h1.lay some fs _ _ 0 0 (fun q hq hql=>⟨q,rfl,hrefs q hql⟩) (fun _ _=>rfl) g5
    rwa [fC] at this)
   refine⟨C1.dO i (.box Tb (.agg (cm fs j (.ar C.st.length 0 0)))) C1.w,hw1,hP1,hupd.1,?_,h2.trans hupd.2 (by omega)⟩
   simp only[Ctx.dO]
   rw[←hC1]
   exact Cg _ _ _ _ hi
  ·exact⟨C,rfl,rfl,hI,rfl,Ext.refl C (Nat.le_refl _)⟩
 ·exact⟨C,rfl,rfl,hI,rfl,Ext.refl C (Nat.le_refl _)⟩
theorem rp: ∀(l:List (Nat×Nat×TypeId)) {C:Ctx},Inv C->∃C',C'.w=C.w/\C'.P=C.P/\Inv C'/\C'.st=pC l C.st/\Ext C.st.length C C'
 |[],C,hI=>⟨C,rfl,rfl,hI,rfl,Ext.refl C (Nat.le_refl _)⟩
 |(i,j,T)::l,C,hI=>by
  obtain⟨C1,a1,a2,a3,a4,a5⟩:=Oz hI i j T
  obtain⟨C2,b1,b2,b3,b4,b5⟩:=rp l a3
  refine⟨C2,b1.trans a1,b2.trans a2,b3,by rw[b4,a4];rfl,a5.trans b5 ?_⟩
  rcases Nat.eq_zero_or_pos C.st.length with h|h
  ·omega
  ·have:=(a5.refs (C.st.length - 1) (by omega)).lt;omega
theorem ET(l:List (Nat×Nat×TypeId)){C:Ctx}{s:S}{a:Act}(hI:Inv C)(hs:dv C s a): ∃C',C'.w=C.w/\Inv C'/\dv C' (zP l s) a/\Ext C.st.length C C':=by
 have key: ∃C',C'.w=C.w/\Inv C'/\dv C' {s with st:=pC l s.st} a/\Ext C.st.length C C':=by
  obtain⟨C',h1,_,h3,h4,h5⟩:=rp l hI
  refine⟨C',h1,h3,?_,h5⟩
  have:=hs.step hI h5
  exact⟨by rw[h4,hs.st],this.bt⟩
 unfold zP
 split
 ·exact⟨C,rfl,hI,hs,Ext.refl C (Nat.le_refl _)⟩
 ·exact key
theorem wF{C:Ctx}{s:S}{a:Act}(P:Program)(live:List (Nat×Option TypeId)){base:Nat}(hI:Inv C)(hs:dv C s a)(hb:base<=s.st.length)(hok:jF P live base s=true):
  ∃C',C'.w=C.w/\Inv C'/\dv C' (canon P live base s) a/\Ext base C C'/\base<=(canon P live base s).st.length:=by
 obtain⟨C1,g1,g2,g3,g4⟩:=kH live hI (s:={s with bt:=fS live s.bt 0}) ⟨hs.st,B2 hs.bt⟩
 obtain⟨C3,g9,ga,gb,gc⟩:=nU P (upto (ki live {s with bt:=fS live s.bt 0}).st.length) g2 g3
 obtain⟨C2,gd,g6,g7,ge⟩:=ET (zy live) ga gb
 have g5:C2.w=C1.w:=gd.trans g9
 have g8:Ext C1.st.length C1 C2:=gc.trans ge (by
  rcases Nat.eq_zero_or_pos C1.st.length with h|h
  ·omega
  ·have:=(gc.refs (C1.st.length - 1) (by omega)).lt;omega)
 have hpre:dv C2 (ij P live s) a:=g7
 unfold jF at hok
 rw[←hpre.st] at hok
 obtain⟨h1,h2,h3⟩:=uN g6 hok
 have hl1:C.st.length<=C1.st.length:=by
  rcases Nat.eq_zero_or_pos C.st.length with h|h
  ·omega
  ·have:=(g4.refs (C.st.length - 1) (by omega)).lt;omega
 have hl2:C1.st.length<=C2.st.length:=by
  rcases Nat.eq_zero_or_pos C1.st.length with h|h
  ·omega
  ·have:=(g8.refs (C1.st.length - 1) (by omega)).lt;omega
 have hsl:s.st.length=C.st.length:=by rw[hs.st]
 refine⟨C2.by (ib base C2.st (de (ij P live s).bt)),g5.trans g1,h1,?_,(g4.mono (by omega)).trans ((g8.mono (by omega)).trans h2 (Nat.le_refl _)) (Nat.le_refl _),?_⟩
 ·refine⟨?_,?_⟩
  ·simp only[canon,tX,Ctx.by,hpre.st]
  ·simp only[canon,tX]
   rw[←hpre.st]
   exact hpre.bt.move h2.keeps g6.lay _ (fun i hi _=>by obtain⟨j,hj⟩:=h3 i hi;exact⟨j,hj,mi hj⟩)
 ·have hrefs:=h2.refs
  have e:(canon P live base s).st.length=(C2.by (ib base C2.st (de (ij P live s).bt))).st.length:=by
   simp only[canon,tX,Ctx.by,hpre.st]
  rw[e]
  rcases Nat.eq_zero_or_pos base with h|h
  ·omega
  ·have:=(hrefs (base - 1) (by omega)).lt;omega
end Go.Dn
