import Derived.Test.YthaiinlfnommnaaGreatDoorDnU
namespace Go.Dn
open Go
theorem kH: ∀(l:List Nat) (i:Nat),jM i l=true↔i∈l
 |[],i=>by simp[jM]
 |j::l,i=>by simp[jM,kH l i,Nat.beq_eq]
theorem kl{ids:List Nat}: ∀{l:List Nat},Bg ids l=true->∀i,i∈l->i∈ids
 |[],_,i,h=>by simp at h
 |j::l,h,i,hi=>by
  simp only[Bg,aa2] at h
  rcases List.mem_cons.1 hi with rfl|hi
  ·exact(kH _ _).1 h.1
  ·exact kl h.2 i hi
theorem mF{n:Nat}: ∀{l:List Nat},EY n l=true->∀i,i∈l->i<n
 |[],_,i,h=>by simp at h
 |j::l,h,i,hi=>by
  simp only[EY,aa2,aa1] at h
  rcases List.mem_cons.1 hi with rfl|hi
  ·exact h.1
  ·exact mF h.2 i hi
theorem lg: ∀{l:List Nat},z0 l=true->l.Nodup
 |[],_=>by simp
 |j::l,h=>by
  simp only[z0,aa2,Bool.not_eq_true'] at h
  rw[List.nodup_cons]
  exact⟨fun hm=>by rw[(kH _ _).2 hm] at h;simp at h,lg h.2⟩
theorem qd: ∀{ids:List Nat} {i n j:Nat},jA i ids n=some j->∃k,j=n+k/\ids[k]? =some i
 |[],_,_,_,h=>by simp[jA] at h
 | a::ids,i,n,j,h=>by
  simp only[jA] at h
  cases hb:Nat.beq i a with
  |true=>
   rw[hb] at h
   simp only[aa8,aa4] at h
   exact⟨0,by omega,by simp[Nat.eq_of_beq_eq_true hb]⟩
  |false=>
   rw[hb] at h
   simp only[aa6] at h
   obtain⟨k,h1,h2⟩:=qd h
   exact⟨k+1,by omega,by simpa using h2⟩
theorem nZ: ∀{ids:List Nat} {i:Nat} (n:Nat),i∈ids->∃j,jA i ids n=some j
 |[],_,_,h=>by simp at h
 | a::ids,i,n,h=>by
  simp only[jA]
  cases hb:Nat.beq i a with
  |true=>exact⟨n,rfl⟩
  |false=>
   simp only[aa6]
   rcases List.mem_cons.1 h with rfl|h
   ·rw[Nat.beq_refl] at hb;cases hb
   ·exact nZ (n+1) h
theorem rQ{st:List Obj}: ∀{ids:List Nat} {k i:Nat},ids[k]? =some i->ax (gE st ids) k=ax st i
 |[],_,_,h=>by simp at h
 |a::ids,0,i,h=>by simp at h;subst h;rfl
 |a::ids,k+1,i,h=>by simp only[gE,ax];exact rQ (by simpa using h)
theorem j7{st:List Obj}: ∀ids:List Nat,(gE st ids).length=ids.length
 |[]=>rfl
 |a::ids=>by simp[gE,j7 ids]
theorem iR(ρ:Nat->Option Nat): ∀l:List Obj,(fZ ρ l).length=l.length
 |[]=>rfl
 |a::l=>by simp[fZ,iR ρ l]
theorem oC(ρ:Nat->Option Nat): ∀(l:List Obj) (k:Nat),ax (fZ ρ l) k=eX ρ (ax l k)
 |[],_=>rfl
 |a::l,0=>rfl
 |a::l,k+1=>by simp only[fZ,ax];exact oC ρ l k
theorem pB{st:List Obj}: ∀{ids:List Nat} {i j:Nat},i∈ids->j∈xH (ax st i)->j∈uZ st ids
 |[],_,_,h,_=>by simp at h
 |a::ids,i,j,h,hj=>by
  simp only[uZ,List.mem_append]
  rcases List.mem_cons.1 h with rfl|h
  ·exact .inl hj
  ·exact .inr (pB h hj)
theorem zB(ρ:Nat->Option Nat)(o:Obj):gP (eX ρ o)=gP o:=by cases o<;>rfl
theorem BC: ∀{n i:Nat},i<n->i∈upto n
 |0,_,h=>by omega
 |n+1,i,h=>by
  simp only[upto,List.mem_append,List.mem_singleton]
  rcases Nat.lt_or_ge i n with h'|h'
  ·exact .inl (BC h')
  ·exact .inr (by omega)
theorem qt{ids:List Nat}: ∀{l:List Nat},tf ids l=true->∀i,i∈l->jA i ids 0=some i
 |[],_,_,h=>by simp at h
 | j::l,h,i,hi=>by
  simp only[tf,aa2] at h
  rcases List.mem_cons.1 hi with rfl|hi
  ·have:=h.1
   split at this
   ·rename_i k hk;rw[hk,Nat.eq_of_beq_eq_true this]
   ·cases this
  ·exact qt h.2 i hi
def Ctx.by(C:Ctx)(ids:List Nat):Ctx:={C with st:=fZ (fun i=>jA i ids 0) (gE C.st ids),ι:=fun k=>C.ι (ids.getD k 0)}
theorem mB{C:Ctx}{ids:List Nat}{k i:Nat}(h:ids[k]? =some i):ax (C.by ids).st k=eX (fun i=>jA i ids 0) (ax C.st i)/\(C.by ids).ι k=C.ι i:=by
 refine⟨?_,?_⟩
 ·simp only[Ctx.by];rw[oC,rQ h]
 ·simp only[Ctx.by];rw[List.getD_eq_getElem?_getD,h];rfl
theorem nv{C:Ctx}{ids:List Nat}:(C.by ids).st.length=ids.length:=by simp[Ctx.by,iR,j7]
theorem lN{C:Ctx}{ids:List Nat}{i j:Nat}(h:jA i ids 0=some j):b7 C (C.by ids) i j:=by
 obtain⟨k,hk,hi⟩:=qd h
 obtain rfl:j=k:=by omega
 obtain⟨h1,h2⟩:=mB (C:=C) hi
 refine⟨by rw[nv];exact(List.getElem?_eq_some_iff.1 hi).1,fun T xs hx=>?_,fun T a hx=>?_,fun K V es hx=>?_,fun r hx=>?_,fun m n ks hx=>?_,fun t hx=>?_,fun s p hx=>?_,fun K V ks vs met hx=>?_,fun T E ls pd hx=>?_⟩
 ·rw[h1,zB] at hx;exact⟨xs,hx,h2,Nat.le_refl _⟩
 ·rw[h1] at hx
  cases ho:ax C.st i<;>rw[ho] at hx<;>simp[eX] at hx
  obtain⟨rfl,_⟩:=hx
  exact⟨_,rfl,h2⟩
 ·rw[h1] at hx
  cases ho:ax C.st i<;>rw[ho] at hx<;>simp[eX] at hx
  obtain⟨rfl,rfl,rfl⟩:=hx
  exact⟨_,rfl,h2,fun ents clock hh=>⟨ents,clock,hh,dS.refl _ _⟩⟩
 ·rw[h1] at hx
  cases ho:ax C.st i<;>rw[ho] at hx<;>simp[eX] at hx
  exact⟨_,rfl,h2⟩
 ·rw[h1] at hx
  cases ho:ax C.st i<;>rw[ho] at hx<;>simp[eX] at hx
  obtain⟨_,rfl,_⟩:=hx
  exact⟨_,_,rfl,h2⟩
 ·rw[h1] at hx
  cases ho:ax C.st i<;>rw[ho] at hx<;>simp[eX] at hx
  exact⟨_,rfl,h2⟩
 ·rw[h1] at hx
  cases ho:ax C.st i<;>rw[ho] at hx<;>simp[eX] at hx
  obtain⟨rfl,_⟩:=hx
  exact⟨_,rfl,h2⟩
 ·rw[h1] at hx
  cases ho:ax C.st i<;>rw[ho] at hx<;>simp[eX] at hx
  obtain⟨rfl,rfl,rfl,rfl,_⟩:=hx
  exact⟨_,rfl,h2⟩
 ·rw[h1] at hx
  cases ho:ax C.st i<;>rw[ho] at hx<;>simp[eX] at hx
  obtain⟨rfl,rfl,rfl,_⟩:=hx
  exact⟨_,_,rfl,h2,rfl,fun _ _ _ h=>h⟩
theorem uy{C:Ctx}(hI:Inv C){base:Nat}{roots ids:List Nat}(hok:oQ base C.st roots ids=true):Inv (C.by ids)/\Ext base C (C.by ids)/\(∀i,i∈roots->∃j,jA i ids 0=some j):=by
 simp only[oQ,aa2] at hok
 obtain⟨⟨⟨⟨h1,h2⟩,h3⟩,h4⟩,h5⟩:=hok
 have hnd:=lg h1
 have hk:bO C (C.by ids):=⟨rfl,fun _ h=>h,fun _ _=>rfl⟩
 have hat: ∀k,k<ids.length->∃i,ids[k]? =some i/\i<C.st.length:=fun k hk=>⟨ids[k],by simp[hk],mF h2 _ (List.getElem_mem hk)⟩
 refine⟨⟨hI.lay,fun k hk'=>?_,fun k l hk' hl hkl hok hol=>?_,hI.xs,fun k hk' hok=>?_,hI.oL,hI.lM hk⟩,⟨hk,Nat.le_refl _,rfl,rfl,rfl,fun _ _ _=>rfl,fun b hb=> .inl hb,fun b hb=>?_,fun i hi=>lN (qt h3 i (BC hi)),fun _=> .inl ⟨rfl,rfl⟩,rfl⟩,fun i hi=>nZ 0 (kl h4 i hi)⟩
 ·rw[nv] at hk'
  obtain⟨i,hi,hlt⟩:=hat k hk'
  obtain⟨g1,g2⟩:=mB (C:=C) hi
  rw[g1,g2]
  have hmem:i∈ids:=List.mem_iff_getElem?.2 ⟨k,hi⟩
  refine(hI.obj i hlt).move hk hI.lay _ (fun j hj hlt'=>?_) (hI.fb i hlt) ⟨fun b ho hb=>⟨(hI.dB ⟨i,hlt,ho,hb.symm⟩).2,rfl⟩,fun _ _=>⟨Iff.rfl,fun _=>rfl⟩,dR.refl _,Nat.le_refl _,fun _ _=>rfl⟩
  obtain⟨m,hm⟩:=nZ (ids:=ids) 0 (kl h5 j (pB hmem hj))
  exact⟨m,hm,lN hm⟩
 ·rw[nv] at hk' hl
  obtain⟨i,hi,hlt⟩:=hat k hk'
  obtain⟨j,hj,hlt'⟩:=hat l hl
  obtain⟨g1,g2⟩:=mB (C:=C) hi
  obtain⟨g3,g4⟩:=mB (C:=C) hj
  rw[g1,g2,dA] at hok
  rw[g3,g4,dA] at hol
  rw[g2,g4]
  refine hI.sF i j hlt hlt' (fun e=>hkl ?_) hok hol
  subst e
  obtain⟨_,e1⟩:=List.getElem?_eq_some_iff.1 hi
  obtain⟨_,e2⟩:=List.getElem?_eq_some_iff.1 hj
  exact(List.getElem_inj hnd).1 (e1.trans e2.symm)
 ·rw[nv] at hk'
  obtain⟨i,hi,hlt⟩:=hat k hk'
  obtain⟨g1,g2⟩:=mB (C:=C) hi
  rw[g1,g2,dA] at hok
  rw[g2]
  exact hI.fb i hlt hok
 ·obtain⟨k,hk',ho,hb'⟩:=hb
  rw[nv] at hk'
  obtain⟨i,hi,hlt⟩:=hat k hk'
  obtain⟨g1,g2⟩:=mB (C:=C) hi
  rw[g1,g2,dA] at ho
  rw[g2] at hb'
  exact .inl ⟨i,hlt,ho,hb'⟩
theorem jJ(live:List (Nat×Option TypeId)): ∀(l:List AV) (n:Nat),(fL live l n).length=l.length
 |[],_=>rfl
 |a::l,n=>by simp[fL,jJ live l]
theorem qz(live:List (Nat×Option TypeId)): ∀(l:List AV) (n i:Nat),nth (fL live l n) i=nth l i\/nth (fL live l n) i= .cy
 |[],_,_=> .inl rfl
 |a::l,n,0=>by
  simp only[fL,nth]
  cases fL.memL n live
  ·exact .inr rfl
  ·exact .inl rfl
 |a::l,n,i+1=>by simp only[fL,nth];exact qz live l (n+1) i
theorem A9{C:Ctx}{live:List (Nat×Option TypeId)}{bk:List AV}{tmps:Array Value}(h:gg C bk tmps):gg C (fL live bk 0) tmps:=by
 refine⟨by rw[jJ];exact h.1,fun i hi=>?_⟩
 rw[jJ] at hi
 rcases qz live bk 0 i with h'|h'
 ·rw[h'];exact h.2 i hi
 ·rw[h'];exact lX _
theorem yY{C:Ctx}(hI:Inv C)(T:TypeId):Inv (C.add (.row T []) ⟨C.w.heap.size,0,true⟩ C.w)/\Ext C.st.length C (C.add (.row T []) ⟨C.w.heap.size,0,true⟩ C.w):=
 gz hI (o:= .row T []) (g:=⟨C.w.heap.size,0,true⟩) (w:=C.w) rfl (Nat.le_refl _) ⟨rfl,rfl,rfl⟩ (fun _ _=>rfl) ⟨trivial, .inl ⟨rfl,rfl⟩⟩
theorem rZ{C:Ctx}(T:TypeId):lf (C.add (.row T []) ⟨C.w.heap.size,0,true⟩ C.w) C.st.length 0 0 (.slice none 0 0):=by
 refine⟨fun T0 xs hx=>?_,fun _ _ _ _ hx=>(by rw[br.1] at hx;cases hx)⟩
 rw[br.1] at hx
 simp only[gP,aa4,ab0] at hx
 obtain⟨rfl,rfl⟩:=hx
 rw[br.2]
 exact⟨by simp, .inl ⟨rfl,rfl,rfl,rfl⟩⟩
theorem kj: ∀(live:List (Nat×Option TypeId)) {C:Ctx} {s:S} {a:Act},Inv C->dm C s a->∃C',C'.w=C.w/\Inv C'/\dm C' (jW live s) a/\Ext C.st.length C C'
 |[],C,s,a,hI,hs=>⟨C,rfl,hI,hs,Ext.refl C (Nat.le_refl _)⟩
 |(r,none)::l,C,s,a,hI,hs=>by simp only[jW];exact kj l hI hs
 | (r,some T)::l,C,s,a,hI,hs=>by
  simp only[jW]
  split
  ·rename_i hr
   have hsame:a.tmps.setIfInBounds r (a.tmps.getD r undef)=a.tmps:=by
    apply Array.ext_getElem?
    intro k
    by_cases hk:r=k
    ·subst hk
     by_cases hlt':r<a.tmps.size
     ·simp[hlt']
     ·simp[hlt']
    ·rw[Array.getElem?_setIfInBounds_ne hk]
   split
   ·have hv:Rel C (.ad (T - Mg) []) (a.tmps.getD r undef):=by
     rcases Nat.lt_or_ge r s.bk.length with hlt|hge
     ·have hv:=hs.bk.2 r hlt
      rw[hr] at hv
      rw[aQ hv]
      refine eB rfl rfl ?_ hI
      simp only[M]
      exact⟨trivial,none,0,rfl,Nat.le_refl _,fun h=>absurd rfl h⟩
     ·rw[mu _ _ hge] at hr;cases hr
    have hput:=hs.bk.put hv (d:=r)
    rw[hsame] at hput
    obtain⟨C',g1,g2,g3,g4⟩:=kj l (s:={bk:=b8 s.bk r (.ad (T - Mg) []),st:=s.st}) (a:=a) hI ⟨hs.st,hput⟩
    exact⟨C',g1,g2,g3,g4⟩
   obtain⟨h1,h2⟩:=yY hI T
   have hst:=hs.step hI h2
   rcases Nat.lt_or_ge r s.bk.length with hlt|hge
   ·have hv:=hs.bk.2 r hlt
    rw[hr] at hv
    have hv':=aQ hv
    have hrel:Rel (C.add (.row T []) ⟨C.w.heap.size,0,true⟩ C.w) (.ar C.st.length 0 0) (a.tmps.getD r undef):=by
     rw[hv']
     refine eB rfl rfl ?_ h1
     simp only[M]
     exact⟨by simp[Ctx.add],_,rfl,rfl,rZ T⟩
    have hput:=hst.bk.put hrel (d:=r)
    rw[hsame] at hput
    obtain⟨C',g1,g2,g3,g4⟩:=kj l (s:={bk:=b8 s.bk r (.ar s.st.length 0 0),st:=s.st++[.row T []]}) (a:=a) h1
     ⟨by simp[Ctx.add,hs.st],by rw[←hs.st];exact hput⟩
    exact⟨C',g1,g2,g3,h2.trans g4 (by simp[Ctx.add])⟩
   ·rw[mu _ _ hge] at hr;cases hr
  ·exact kj l hI hs
theorem Hl{C:Ctx}{s:S}{a:Act}(P:Program)(i:Nat)(hI:Inv C)(hs:dm C s a): ∃C',C'.w=C.w/\Inv C'/\dm C' (Ei P i s) a/\Ext C.st.length C C':=by
 unfold Ei
 split
 ·rename_i Tb hst
  split
  ·rename_i Te _
   obtain⟨h1,h2⟩:=yY hI Te
   rw[←hs.st] at hst
   have hi:i<C.st.length:=by
    rcases Nat.lt_or_ge i C.st.length with h|h
    ·exact h
    ·rw[dZ _ _ h] at hst;cases hst
   generalize hC1:C.add (.row Te []) ⟨C.w.heap.size,0,true⟩ C.w=C1 at*
   have hw1:C1.w=C.w:=by rw[←hC1];rfl
   have hl1:C1.st.length=C.st.length+1:=by rw[←hC1];simp[Ctx.add]
   have hn1:ax C1.st i= .box Tb (.lit (.slice none 0 0)):=by rw[←hC1,(cG hi).1];exact hst
   have hι1:C1.ι i=C.ι i:=by rw[←hC1];exact(cG hi).2
   have hslc:lf C1 C.st.length 0 0 (.slice none 0 0):=by rw[←hC1];exact rZ Te
   have hob:=h1.obj i (by omega)
   rw[hn1] at hob
   obtain⟨g1,g2,c,e,g3,g4,g5⟩:=hob
   have hr:b7 C1 (C1.dE i (.box Tb (.ar C.st.length 0 0)) C1.w) i i:=jY (by omega) hn1 Tb _ rfl rfl
   have hk:bO C1 (C1.dE i (.box Tb (.ar C.st.length 0 0)) C1.w):=⟨rfl,fun _ h=>h,fun _ _=>rfl⟩
   have hupd:=gy h1 (i:=i) (by omega) (o:= .box Tb (.ar C.st.length 0 0)) (w:=C1.w) (by rw[hn1];rfl) rfl ⟨rfl,rfl,rfl⟩ (fun _ _=>rfl) hr (by
    refine⟨g1,rfl,c,e,g3,by simpa[wid] using g4,?_⟩
    simp only[M] at g5⊢
    refine⟨by simp only[Ctx.dE,aV];omega,_,g5.1,rfl,?_⟩
    refine lf.move hk (dV h1 (by omega) (by simp only[Ctx.dE,aV];omega) (bu _ _ _ _ (by omega)) rfl (fun _ _ _=>⟨rfl,rfl,rfl⟩)) hslc)
   refine⟨C1.dE i (.box Tb (.ar C.st.length 0 0)) C1.w,hw1,hupd.1,?_,h2.trans hupd.2 (by omega)⟩
   have:=(hs.step hI h2).step h1 hupd.2
   refine⟨?_,this.bk⟩
   simp only[Ctx.dE,←hC1,Ctx.add,hs.st]
   have: ∀(l m:List Obj) (i:Nat) (x:Obj),i<l.length->db (l++m) i x=db l i x++m:=by
    intro l;induction l with
    |nil=>intro m i x h;simp at h
    |cons a l ih=>
     intro m i x h
     cases i with
     |zero=>rfl
     |succ i=>simp only[List.cons_append,db];rw[ih m i x (by simpa using h)]
   exact this _ _ _ _ (by rw[←hs.st];exact hi)
  ·exact⟨C,rfl,hI,hs,Ext.refl C (Nat.le_refl _)⟩
 ·exact⟨C,rfl,hI,hs,Ext.refl C (Nat.le_refl _)⟩
theorem nH(P:Program): ∀(is:List Nat) {C:Ctx} {s:S} {a:Act},Inv C->dm C s a->∃C',C'.w=C.w/\Inv C'/\dm C' (nq P is s) a/\Ext C.st.length C C'
 |[],C,s,a,hI,hs=>⟨C,rfl,hI,hs,Ext.refl C (Nat.le_refl _)⟩
 |i::is,C,s,a,hI,hs=>by
  simp only[nq]
  obtain⟨C1,g1,g2,g3,g4⟩:=Hl P i hI hs
  obtain⟨C2,g5,g6,g7,g8⟩:=nH P is g2 g3
  refine⟨C2,g5.trans g1,g6,g7,g4.trans g8 ?_⟩
  rcases Nat.eq_zero_or_pos C.st.length with h|h
  ·omega
  ·have:=(g4.refs (C.st.length - 1) (by omega)).lt;omega
theorem BI: ∀(l:List AV) (j k:Nat),nth l j= .lit (.slice none 0 0)->eD (b8 l j (.ar k 0 0))=eD l
 |[],_,_,h=>by simp[nth] at h
 |a::l,0,k,h=>by
  simp only[nth] at h
  subst h;rfl
 |a::l,j+1,k,h=>by
  simp only[nth] at h
  simp only[b8,eD,BI l j k h]
theorem vF: ∀(l:List AV) (j k:Nat),dD l=true->dD (b8 l j (.ar k 0 0))=true
 |[],_,_,_=>rfl
 |a::l,0,k,h=>by
  simp only[dD,aa2,b8] at h⊢
  exact⟨rfl,h.2⟩
 |a::l,j+1,k,h=>by
  simp only[dD,aa2,b8] at h⊢
  exact⟨h.1,vF l j k h.2⟩
theorem E6{C:Ctx}{k:Nat}(hk:k<C.st.length)(hs:lf C k 0 0 (.slice none 0 0)): ∀(l:List AV) (j:Nat) (s:Src) (o:Nat),nth l j= .lit (.slice none 0 0)->ML C l s o->ML C (b8 l j (.ar k 0 0)) s o
 |[],_,_,_,h,_=>by simp[nth] at h
 |a::l,0,s,o,h,hm=>by
  simp only[nth] at h
  subst h
  simp only[b8,ML,M,wid] at hm⊢
  exact⟨⟨hk,_,hm.1.1,rfl,hs⟩,hm.2⟩
 |a::l,j+1,s,o,h,hm=>by
  simp only[nth] at h
  simp only[b8,ML] at hm⊢
  exact⟨hm.1,E6 hk hs l j s _ h hm.2⟩
theorem Bh: ∀(l m:List Obj) (i:Nat) (x:Obj),i<l.length->db (l++m) i x=db l i x++m
 |[],_,_,_,h=>by simp at h
 |a::l,m,0,x,_=>rfl
 |a::l,m,i+1,x,h=>by
  simp only[List.cons_append,db]
  rw[Bh l m i x (by simpa using h)]
theorem Ma{C:Ctx}(hI:Inv C)(i j:Nat)(T:TypeId): ∃C',C'.w=C.w/\C'.P=C.P/\Inv C'/\C'.st=Pu i j T C.st/\Ext C.st.length C C':=by
 unfold Pu
 split
 ·rename_i Tb fs hst
  split
  ·rename_i hf
   obtain⟨h1,h2⟩:=yY hI T
   have hi:i<C.st.length:=by
    rcases Nat.lt_or_ge i C.st.length with h|h
    ·exact h
    ·rw[dZ _ _ h] at hst;cases hst
   generalize hC1:C.add (.row T []) ⟨C.w.heap.size,0,true⟩ C.w=C1 at*
   have hw1:C1.w=C.w:=by rw[←hC1];rfl
   have hP1:C1.P=C.P:=by rw[←hC1];rfl
   have hl1:C1.st.length=C.st.length+1:=by rw[←hC1];simp[Ctx.add]
   have hn1:ax C1.st i= .box Tb (.agg fs):=by rw[←hC1,(cG hi).1];exact hst
   have hslc:lf C1 C.st.length 0 0 (.slice none 0 0):=by rw[←hC1];exact rZ T
   have hob:=h1.obj i (by omega)
   rw[hn1] at hob
   obtain⟨g1,g2,c,e,g3,g4,g5⟩:=hob
   have hr:b7 C1 (C1.dE i (.box Tb (.agg (b8 fs j (.ar C.st.length 0 0)))) C1.w) i i:=jY (by omega) hn1 Tb _ rfl rfl
   have hk:bO C1 (C1.dE i (.box Tb (.agg (b8 fs j (.ar C.st.length 0 0)))) C1.w):=⟨rfl,fun _ h=>h,fun _ _=>rfl⟩
   have hlen:(C1.dE i (.box Tb (.agg (b8 fs j (.ar C.st.length 0 0)))) C1.w).st.length=C1.st.length:=aV _ _ _
   have hrefs: ∀q,q<C1.st.length->b7 C1 (C1.dE i (.box Tb (.agg (b8 fs j (.ar C.st.length 0 0)))) C1.w) q q:=fun q hq=>by
    by_cases hqi:i=q
    ·subst hqi;exact hr
    ·exact dV h1 hq (by omega) (bu _ _ _ _ hqi) rfl (fun _ _ _=>⟨rfl,rfl,rfl⟩)
   have hslc':=lf.move hk (hrefs C.st.length (by omega)) hslc
   have hupd:=gy h1 (i:=i) (by omega) (o:= .box Tb (.agg (b8 fs j (.ar C.st.length 0 0)))) (w:=C1.w) (by rw[hn1];rfl) rfl ⟨rfl,rfl,rfl⟩ (fun _ _=>rfl) hr (by
    refine⟨g1,by simp only[cH] at g2⊢;exact vF _ _ _ g2,c,e,g3,by simpa[wid,BI _ _ _ hf] using g4,?_⟩
    simp only[M] at g5⊢
    refine E6 (by rw[hlen];omega) hslc' fs j _ _ hf ?_
    have:=yu hk h1.lay some fs _ _ 0 0 (fun q hq hql=>⟨q,rfl,hrefs q hql⟩) (fun _ _=>rfl) g5
    rwa [fg] at this)
   refine⟨C1.dE i (.box Tb (.agg (b8 fs j (.ar C.st.length 0 0)))) C1.w,hw1,hP1,hupd.1,?_,h2.trans hupd.2 (by omega)⟩
   simp only[Ctx.dE]
   rw[←hC1]
   exact Bh _ _ _ _ hi
  ·exact⟨C,rfl,rfl,hI,rfl,Ext.refl C (Nat.le_refl _)⟩
 ·exact⟨C,rfl,rfl,hI,rfl,Ext.refl C (Nat.le_refl _)⟩
theorem qw: ∀(l:List (Nat×Nat×TypeId)) {C:Ctx},Inv C->∃C',C'.w=C.w/\C'.P=C.P/\Inv C'/\C'.st=oR l C.st/\Ext C.st.length C C'
 |[],C,hI=>⟨C,rfl,rfl,hI,rfl,Ext.refl C (Nat.le_refl _)⟩
 |(i,j,T)::l,C,hI=>by
  obtain⟨C1,a1,a2,a3,a4,a5⟩:=Ma hI i j T
  obtain⟨C2,b1,b2,b3,b4,b5⟩:=qw l a3
  refine⟨C2,b1.trans a1,b2.trans a2,b3,by rw[b4,a4];rfl,a5.trans b5 ?_⟩
  rcases Nat.eq_zero_or_pos C.st.length with h|h
  ·omega
  ·have:=(a5.refs (C.st.length - 1) (by omega)).lt;omega
theorem Dv(l:List (Nat×Nat×TypeId)){C:Ctx}{s:S}{a:Act}(hI:Inv C)(hs:dm C s a): ∃C',C'.w=C.w/\Inv C'/\dm C' (zK l s) a/\Ext C.st.length C C':=by
 have key: ∃C',C'.w=C.w/\Inv C'/\dm C' {s with st:=oR l s.st} a/\Ext C.st.length C C':=by
  obtain⟨C',h1,_,h3,h4,h5⟩:=qw l hI
  refine⟨C',h1,h3,?_,h5⟩
  have:=hs.step hI h5
  exact⟨by rw[h4,hs.st],this.bk⟩
 unfold zK
 split
 ·exact⟨C,rfl,hI,hs,Ext.refl C (Nat.le_refl _)⟩
 ·exact key
theorem tZ{C:Ctx}{s:S}{a:Act}(P:Program)(live:List (Nat×Option TypeId)){base:Nat}(hI:Inv C)(hs:dm C s a)(hb:base<=s.st.length)(hok:jn P live base s=true):
  ∃C',C'.w=C.w/\Inv C'/\dm C' (canon P live base s) a/\Ext base C C'/\base<=(canon P live base s).st.length:=by
 obtain⟨C1,g1,g2,g3,g4⟩:=kj live hI (s:={s with bk:=fL live s.bk 0}) ⟨hs.st,A9 hs.bk⟩
 obtain⟨C3,g9,ga,gb,gc⟩:=nH P (upto (jW live {s with bk:=fL live s.bk 0}).st.length) g2 g3
 obtain⟨C2,gd,g6,g7,ge⟩:=Dv (y9 live) ga gb
 have g5:C2.w=C1.w:=gd.trans g9
 have g8:Ext C1.st.length C1 C2:=gc.trans ge (by
  rcases Nat.eq_zero_or_pos C1.st.length with h|h
  ·omega
  ·have:=(gc.refs (C1.st.length - 1) (by omega)).lt;omega)
 have hpre:dm C2 (gK P live s) a:=g7
 unfold jn at hok
 rw[←hpre.st] at hok
 obtain⟨h1,h2,h3⟩:=uy g6 hok
 have hl1:C.st.length<=C1.st.length:=by
  rcases Nat.eq_zero_or_pos C.st.length with h|h
  ·omega
  ·have:=(g4.refs (C.st.length - 1) (by omega)).lt;omega
 have hl2:C1.st.length<=C2.st.length:=by
  rcases Nat.eq_zero_or_pos C1.st.length with h|h
  ·omega
  ·have:=(g8.refs (C1.st.length - 1) (by omega)).lt;omega
 have hsl:s.st.length=C.st.length:=by rw[hs.st]
 refine⟨C2.by (gQ base C2.st (cO (gK P live s).bk)),g5.trans g1,h1,?_,(g4.mono (by omega)).trans ((g8.mono (by omega)).trans h2 (Nat.le_refl _)) (Nat.le_refl _),?_⟩
 ·refine⟨?_,?_⟩
  ·simp only[canon,tg,Ctx.by,hpre.st]
  ·simp only[canon,tg]
   rw[←hpre.st]
   exact hpre.bk.move h2.keeps g6.lay _ (fun i hi _=>by obtain⟨j,hj⟩:=h3 i hi;exact⟨j,hj,lN hj⟩)
 ·have hrefs:=h2.refs
  have e:(canon P live base s).st.length=(C2.by (gQ base C2.st (cO (gK P live s).bk))).st.length:=by
   simp only[canon,tg,Ctx.by,hpre.st]
  rw[e]
  rcases Nat.eq_zero_or_pos base with h|h
  ·omega
  ·have:=(hrefs (base - 1) (by omega)).lt;omega
end Go.Dn
