import Derived.Test.YtioeffnadipbaaaGreatDoorDnU
namespace Go.Dn
open Go
theorem ld: ∀l i,ic i l=true↔i∈l
 |[],i=>by simp[ic]
 |j::l,i=>by simp[ic,ld l i]
theorem kP{ids}: ∀{l},Cg ids l=true->∀i,i∈l->i∈ids
 |[],_,i,h=>by grind
 |j::l,h,i,a=>by
  simp[Cg] at h;rcases List.mem_cons.1 a with rfl|a
  ·grind [ld]
  ·exact kP h.2 i a
theorem ng{n}: ∀{l},Gy n l=true->∀i,i∈l->i<n
 |[],_,i,h=>by grind
 |j::l,h,i,a=>by
  simp[Gy] at h;rcases List.mem_cons.1 a with rfl|a
  ·omega
  ·exact ng h.2 i a
theorem lU: ∀{l},Bc l=true->l.Nodup
 |[],_=>by simp
 |j::l,h=>by
  simp[Bc] at h;rw[List.nodup_cons];exact⟨fun a=>by grind [ld],lU h.2⟩
theorem r9: ∀{ids i n j},j8 i ids n=some j->∃k,j=n+k/\ids[k]? =some i
 |[],_,_,_,h=>by grind [j8]
 | a::ids,i,n,j,h=>by
  simp[j8] at h;cases b:Nat.beq i a with
  |true=>
   simp_all
  |false=>
   rw[b] at h;obtain⟨k,d,c⟩:=r9 h;exact⟨k+1,by omega,by grind⟩
theorem oR: ∀{ids i} n,i∈ids->∃j,j8 i ids n=some j
 |[],_,_,h=>by grind
 | a::ids,i,n,h=>by
  simp[j8];cases b:Nat.beq i a with
  |true=>simp
  |false=>
   rcases List.mem_cons.1 h with rfl|h
   ·simp_all
   ·exact oR _ h
theorem tj{st}: ∀{ids k i},ids[k]? =some i->au (iw st ids) k=au st i
 |[],_,_,h=>by grind
 |a::ids,0,i,h=>by simp at h;subst h;rfl
 |a::ids,k+1,i,h=>by simp[iw];exact tj (by grind)
theorem ku{st}: ∀ids,(iw st ids).length=ids.length
 |[]=>rfl
 |a::ids=>by simp[iw,ku _]
theorem jn ρ: ∀l,(iy ρ l).length=l.length
 |[]=>rfl
 |a::l=>by simp[iy,jn _ l]
theorem pW ρ: ∀l k,au (iy ρ l) k=fp ρ (au l k)
 |[],_=>rfl
 |a::l,0=>rfl
 |a::l,k+1=>by exact pW _ l k
theorem ri{st}: ∀{ids i j},i∈ids->j∈zE (au st i)->j∈xJ st ids
 |[],_,_,h,_=>by grind
 |a::ids,i,j,h,b=>by
  simp[xJ];rcases List.mem_cons.1 h with rfl|h
  ·grind
  ·exact .inr (ri h b)
theorem Av ρ o:ib (fp ρ o)=ib o:=by cases o<;>rfl
theorem D2: ∀{n i},i<n->i∈upto n
 |0,_,h=>by omega
 |n+1,i,h=>by
  simp[upto];rcases Nat.lt_or_ge i n with a|a
  ·exact .inl (D2 a)
  grind
theorem su{ids}: ∀{l},vr ids l=true->∀i,i∈l->j8 i ids 0=some i
 |[],_,_,h=>by grind
 |j::l,h,i,a=>by
  simp[vr] at h;rcases List.mem_cons.1 a with rfl|a
  ·grind [Nat.eq_of_beq_eq_true]
  ·exact su h.2 i a
def Ctx.by(C:Ctx)(ids:List _):={C with st:=iy (fun i=>j8 i ids 0) (iw C.st ids),ι:=fun k=>C.ι (ids.getD k 0)}
theorem nk{C:Ctx}{ids k i}(h:ids[k]? =some i):au (C.by ids).st k=fp (fun i=>j8 i ids 0) (au C.st i)/\(C.by ids).ι k=C.ι i:=by grind [Ctx.by,pW,tj]
theorem oA{C:Ctx}{ids}:(C.by ids).st.length=ids.length:=by simp[Ctx.by,jn,ku]
theorem mB{C ids i j}(h:j8 i ids 0=some j):bW C (C.by ids) i j:=by
 obtain⟨k,v,l⟩:=r9 h;obtain rfl:j=k:=by omega
 obtain⟨d,e⟩:=nk (C:=C) l;refine⟨by rw[oA];exact(List.getElem?_eq_some_iff.1 l).1,fun T xs b=>?_,fun T a b=>?_,fun K V y b=>?_,fun r b=>?_,fun m n o b=>?_,fun t b=>?_,fun s p b=>?_,fun K V o x u b=>?_,fun T E z w b=>?_⟩
 ·rw[d,Av] at b;exact⟨xs,b,e,Nat.le_refl _⟩
 ·rw[d] at b
  cases c:au C.st i<;>rw[c] at b<;>simp[fp] at b
  obtain⟨rfl,_⟩:=b;exact⟨_,rfl,e⟩
 ·rw[d] at b
  cases c:au C.st i<;>rw[c] at b<;>simp[fp] at b
  obtain⟨rfl,rfl,rfl⟩:=b;exact⟨_,rfl,e,fun g f q=>⟨g,f,q,eb.refl _ _⟩⟩
 ·rw[d] at b
  cases c:au C.st i<;>rw[c] at b<;>simp[fp] at b
  exact⟨_,rfl,e⟩
 ·rw[d] at b
  cases c:au C.st i<;>rw[c] at b<;>simp[fp] at b
  obtain⟨_,rfl,_⟩:=b;exact⟨_,_,rfl,e⟩
 ·rw[d] at b
  cases c:au C.st i<;>rw[c] at b<;>simp[fp] at b
  exact⟨_,rfl,e⟩
 ·rw[d] at b
  cases c:au C.st i<;>rw[c] at b<;>simp[fp] at b
  obtain⟨rfl,_⟩:=b;exact⟨_,rfl,e⟩
 ·rw[d] at b
  cases c:au C.st i<;>rw[c] at b<;>simp[fp] at b
  obtain⟨rfl,rfl,rfl,rfl,_⟩:=b;exact⟨_,rfl,e⟩
 ·rw[d] at b
  cases c:au C.st i<;>rw[c] at b<;>simp[fp] at b
  obtain⟨rfl,rfl,rfl,_⟩:=b;exact⟨_,_,rfl,e,rfl,fun _ _ _ h=>h⟩
theorem v7{C}(o:Inv C){base n ids}(d:qt base C.st n ids=true):Inv (C.by ids)/\Ext base C (C.by ids)/\∀i,i∈n->∃j,j8 i ids 0=some j:=by
 simp only[qt,an3] at d;obtain⟨⟨⟨⟨J,H⟩,E⟩,L⟩,F⟩:=d;have I:=lU J;have s:bK C (C.by ids):=⟨rfl,fun _ h=>h,fun _ _=>rfl⟩
 have g: ∀k,k<ids.length->∃i,ids[k]? =some i/\i<C.st.length:=fun k s=>⟨ids[k],by simp[s],ng H _ (List.getElem_mem s)⟩
 refine⟨⟨o.lay,fun k a=>?_,fun k l a A z d w=>?_,o.xs,fun k a d=>?_,o.ot,o.lR s⟩,⟨s,Nat.le_refl _,rfl,rfl,rfl,fun _ _ _=>rfl,fun b u=> .inl u,fun b u=>?_,fun i f=>mB (su E i (D2 f)),fun _=> .inl ⟨rfl,rfl⟩,rfl⟩,fun i f=>oR 0 (kP L i f)⟩
 ·rw[oA] at a
  obtain⟨i,f,c⟩:=g k a;obtain⟨r,p⟩:=nk (C:=C) f;rw[r,p];have v:i∈ids:=List.mem_iff_getElem?.2 ⟨k,f⟩;refine(o.obj i c).move s o.lay _ (fun j y q=>?_) (o.eZ i c) ⟨fun b x u=>⟨(o.dA ⟨i,c,x,u.symm⟩).2,rfl⟩,fun _ _=>⟨Iff.rfl,fun _=>rfl⟩,dT.refl _,Nat.le_refl _,fun _ _=>rfl⟩;obtain⟨m,D⟩:=oR (ids:=ids) 0 (kP F j (ri v y));exact⟨m,D,mB D⟩
 ·rw[oA] at a A
  obtain⟨i,f,c⟩:=g k a;obtain⟨j,y,q⟩:=g l A;obtain⟨r,p⟩:=nk (C:=C) f;obtain⟨K,B⟩:=nk (C:=C) y;rw[r,p,dG] at d;rw[K,B,dG] at w;rw[p,B];refine o.u0 i j c q (fun e=>z ?_) d w
  grind [List.getElem?_eq_some_iff,List.getElem_inj]
 ·rw[oA] at a
  obtain⟨i,f,c⟩:=g k a;obtain⟨r,p⟩:=nk (C:=C) f;rw[r,p,dG] at d;rw[p];exact o.eZ i c d
 ·obtain⟨k,a,x,t⟩:=u
  rw[oA] at a;obtain⟨i,f,c⟩:=g k a;obtain⟨r,p⟩:=nk (C:=C) f;rw[r,p,dG] at x;rw[p] at t;exact .inl ⟨i,c,x,t⟩
theorem kc b: ∀l n,(ix b l n).length=l.length
 |[],_=>rfl
 |a::l,n=>by simp[ix,kc _ l]
theorem sc b: ∀l n i,nth (ix b l n) i=nth l i\/nth (ix b l n) i= .cK
 |[],_,_=> .inl rfl
 |a::l,n,0=>by
  grind [ix,nth]
 |a::l,n,i+1=>by exact sc _ l _ i
theorem CK{C c a b}(h:gJ C a b):gJ C (ix c a 0) b:=by
 refine⟨by rw[kc];exact h.1,fun i e=>?_⟩;rw[kc] at e;rcases sc _ _ 0 i with d|d
 ·rw[d];exact h.2 i e
 grind [mQ]
theorem Ba{C}(a:Inv C) T:Inv (C.add (.row T []) ⟨C.w.heap.size,0,true⟩ C.w)/\Ext C.st.length C (C.add (.row T []) ⟨C.w.heap.size,0,true⟩ C.w):=
 gh a    rfl (Nat.le_refl _) ⟨rfl,rfl,rfl⟩ (by simp) ⟨trivial,by simp⟩
theorem tC{C:Ctx} T:lH (C.add (.row T []) ⟨C.w.heap.size,0,true⟩ C.w) C.st.length 0 0 (.slice none 0 0):=by
 refine⟨fun b xs a=>?_,fun _ _ _ _ a=>by grind [br]⟩
 grind [br]
theorem jH: ∀live {C s a},Inv C->dh C s a->∃C',C'.w=C.w/\Inv C'/\dh C' (jk live s) a/\Ext C.st.length C C'
 |[],C,s,a,hI,hs=>⟨C,rfl,hI,hs,Ext.refl C (Nat.le_refl _)⟩
 |(r,none)::l,C,s,a,hI,hs=>by simp only[jk];exact jH l hI hs
 | (r,some T)::l,C,s,a,hI,hs=>by
  simp only[jk];split
  ·rename_i hr
   have hsame:a.tmps.setIfInBounds r (a.tmps.getD r undef)=a.tmps:=by
    apply Array.ext_getElem?;intro k;by_cases hk:r=k
    ·subst hk
     by_cases hlt':r<a.tmps.size
     ·simp[hlt']
     ·simp[hlt']
    ·rw[Array.getElem?_setIfInBounds_ne hk]
   split
   ·have hv:Rel C (.ad (T - Qh) []) (a.tmps.getD r undef):=by
     rcases Nat.lt_or_ge r s.bz.length with hlt|hge
     ·have hv:=hs.bz.2 r hlt
      rw[hr] at hv;rw[aL hv];refine dX rfl rfl ?_ hI;simp only[M];exact⟨trivial,none,0,rfl,Nat.le_refl _,fun h=>absurd rfl h⟩
     ·rw[iF _ _ hge] at hr;cases hr
    have hput:=hs.bz.put hv (d:=r);rw[hsame] at hput;obtain⟨C',g1,g2,g3,g4⟩:=jH l (s:={bz:=bQ s.bz r (.ad (T - Qh) []),st:=s.st}) (a:=a) hI ⟨hs.st,hput⟩;exact⟨C',g1,g2,g3,g4⟩
   obtain⟨h1,h2⟩:=Ba hI T;have hst:=hs.step hI h2;rcases Nat.lt_or_ge r s.bz.length with hlt|hge
   ·have hv:=hs.bz.2 r hlt
    rw[hr] at hv;have hv':=aL hv;have hrel:Rel (C.add (.row T []) ⟨C.w.heap.size,0,true⟩ C.w) (.ax C.st.length 0 0) (a.tmps.getD r undef):=by
     rw[hv'];refine dX rfl rfl ?_ h1;simp only[M];exact⟨by simp[Ctx.add],_,rfl,rfl,tC T⟩
    have hput:=hst.bz.put hrel (d:=r);rw[hsame] at hput;obtain⟨C',g1,g2,g3,g4⟩:=jH l (s:={bz:=bQ s.bz r (.ax s.st.length 0 0),st:=s.st++[.row T []]}) (a:=a) h1
     ⟨by simp[Ctx.add,hs.st],by rw[←hs.st];exact hput⟩
    exact⟨C',g1,g2,g3,h2.trans g4 (by simp[Ctx.add])⟩
   ·rw[iF _ _ hge] at hr;cases hr
  ·exact jH l hI hs
theorem Jy{C s a} P i(hI:Inv C)(hs:dh C s a): ∃C',C'.w=C.w/\Inv C'/\dh C' (Fh P i s) a/\Ext C.st.length C C':=by
 unfold Fh;split
 ·rename_i Tb hst
  split
  ·rename_i Te _
   obtain⟨h1,h2⟩:=Ba hI Te;rw[←hs.st] at hst;have hi:i<C.st.length:=by
    rcases Nat.lt_or_ge i C.st.length with h|h
    ·exact h
    ·rw[eC _ _ h] at hst;cases hst
   generalize hC1:C.add (.row Te []) ⟨C.w.heap.size,0,true⟩ C.w=C1 at*
   have hw1:C1.w=C.w:=by rw[←hC1];rfl
   have hl1:C1.st.length=C.st.length+1:=by rw[←hC1];simp[Ctx.add]
   have hn1:au C1.st i= .box Tb (.lit (.slice none 0 0)):=by rw[←hC1,(cw hi).1];exact hst
   have hι1:C1.ι i=C.ι i:=by rw[←hC1];exact(cw hi).2
   have hslc:lH C1 C.st.length 0 0 (.slice none 0 0):=by rw[←hC1];exact tC Te
   have hob:=h1.obj i (by omega);rw[hn1] at hob;obtain⟨g1,g2,c,e,g3,g4,g5⟩:=hob;have hr:bW C1 (C1.dR i (.box Tb (.ax C.st.length 0 0)) C1.w) i i:=kz (by omega) hn1 Tb _ rfl rfl;have hk:bK C1 (C1.dR i (.box Tb (.ax C.st.length 0 0)) C1.w):=⟨rfl,fun _ h=>h,fun _ _=>rfl⟩
   have hupd:=hJ h1 (i:=i) (by omega) (o:= .box Tb (.ax C.st.length 0 0)) (w:=C1.w) (by rw[hn1];rfl) rfl ⟨rfl,rfl,rfl⟩ (fun _ _=>rfl) hr (by
    refine⟨g1,rfl,c,e,g3,by simpa[wid] using g4,?_⟩;simp only[M] at g5⊢;refine⟨by simp only[Ctx.dR,a9];omega,_,g5.1,rfl,?_⟩;refine lH.move hk (dW h1 (by omega) (by simp only[Ctx.dR,a9];omega) (bw _ _ _ _ (by omega)) rfl (fun _ _ _=>⟨rfl,rfl,rfl⟩)) hslc)
   refine⟨C1.dR i (.box Tb (.ax C.st.length 0 0)) C1.w,hw1,hupd.1,?_,h2.trans hupd.2 (by omega)⟩;have:=(hs.step hI h2).step h1 hupd.2
   refine⟨?_,this.bz⟩;simp only[Ctx.dR,←hC1,Ctx.add,hs.st];have: ∀(l m:List Obj) (i:Nat) (x:Obj),i<l.length->dj (l++m) i x=dj l i x++m:=by
    intro l;induction l with
    |nil=>intro m i x h;simp at h
    |cons a l ih=>
     intro m i x h;cases i with
     |zero=>rfl
     |succ i=>simp only[List.cons_append,dj];rw[ih m i x (by simpa using h)]
   exact this _ _ _ _ (by rw[←hs.st];exact hi)
  ·exact⟨C,rfl,hI,hs,Ext.refl C (Nat.le_refl _)⟩
 ·exact⟨C,rfl,hI,hs,Ext.refl C (Nat.le_refl _)⟩
theorem oU P: ∀is {C s a},Inv C->dh C s a->∃C',C'.w=C.w/\Inv C'/\dh C' (si P is s) a/\Ext C.st.length C C'
 |[],C,s,a,hI,hs=>⟨C,rfl,hI,hs,Ext.refl C (Nat.le_refl _)⟩
 |i::is,C,s,a,hI,hs=>by
  obtain⟨C1,g1,g2,g3,g4⟩:=Jy P i hI hs;obtain⟨C2,g5,g6,g7,g8⟩:=oU P _ g2 g3;refine⟨_,g5.trans g1,g6,g7,g4.trans g8 ?_⟩;rcases Nat.eq_zero_or_pos C.st.length with h|h
  ·omega
  ·have:=(g4.refs (C.st.length - 1) (by omega)).lt;omega
theorem D7: ∀l j k,nth l j= .lit (.slice none 0 0)->eL (bQ l j (.ax k 0 0))=eL l
 |[],_,_,h=>by rfl
 |a::l,0,k,h=>by
  subst h;rfl
 |a::l,j+1,k,h=>by
  simp[bQ,eL,D7 l j k h]
theorem x2: ∀l j k,dL l=true->dL (bQ l j (.ax k 0 0))=true
 |[],_,_,_=>rfl
 |a::l,0,k,h=>by
  simp[dL,bQ] at h⊢;exact⟨rfl,h.2⟩
 |a::l,j+1,k,h=>by
  simp[dL,bQ] at h⊢;exact⟨h.1,x2 l j k h.2⟩
theorem Gr{C k}(d:k<C.st.length)(c:lH C k 0 0 (.slice none 0 0)): ∀l j s o,nth l j= .lit (.slice none 0 0)->ML C l s o->ML C (bQ l j (.ax k 0 0)) s o
 |[],_,_,_,h,_=>by grind [nth]
 |a::l,0,s,o,h,b=>by
  grind [nth,bQ,ML,M,wid]
 |a::l,j+1,s,o,h,b=>by
  exact⟨b.1,Gr d c l j s _ h b.2⟩
theorem Dy: ∀l m i x,i<l.length->dj (l++m) i x=dj l i x++m
 |[],_,_,_,h=>by grind
 |a::l,m,0,x,_=>rfl
 |a::l,m,i+1,x,h=>by
  simp[dj];rw[Dy l m i x (by grind)]
theorem Qm{C}(hI:Inv C) i j T: ∃C',C'.w=C.w/\C'.P=C.P/\Inv C'/\C'.st=T8 i j T C.st/\Ext C.st.length C C':=by
 unfold T8;split
 ·rename_i Tb fs hst
  split
  ·rename_i hf
   obtain⟨h1,h2⟩:=Ba hI T;have hi:i<C.st.length:=by
    grind [Nat.lt_or_ge,eC]
   generalize hC1:C.add (.row T []) ⟨C.w.heap.size,0,true⟩ C.w=C1 at*
   have hw1:C1.w=C.w:=by rw[←hC1];rfl
   have hP1:C1.P=C.P:=by rw[←hC1];rfl
   have hl1:C1.st.length=C.st.length+1:=by rw[←hC1];simp[Ctx.add]
   have hn1:au C1.st i= .box Tb (.agg fs):=by rw[←hC1,(cw hi).1];exact hst
   have hslc:lH C1 C.st.length 0 0 (.slice none 0 0):=by rw[←hC1];exact tC T
   have hob:=h1.obj i (by omega);rw[hn1] at hob;obtain⟨g1,g2,c,e,g3,g4,g5⟩:=hob;have hr:bW C1 (C1.dR i (.box Tb (.agg (bQ fs j (.ax C.st.length 0 0)))) C1.w) i i:=kz (by omega) hn1 Tb _ rfl rfl;have hk:bK C1 (C1.dR i (.box Tb (.agg (bQ fs j (.ax C.st.length 0 0)))) C1.w):=⟨rfl,fun _ h=>h,fun _ _=>rfl⟩
   have hlen:(C1.dR i (.box Tb (.agg (bQ fs j (.ax C.st.length 0 0)))) C1.w).st.length=C1.st.length:=a9 _ _ _;have hrefs: ∀q,q<C1.st.length->bW C1 _ q q:=fun q hq=>by
    by_cases hqi:i=q
    ·subst hqi;exact hr
    ·exact dW h1 hq (by omega) (bw _ _ _ _ hqi) rfl (fun _ _ _=>⟨rfl,rfl,rfl⟩)
   have hslc':=lH.move hk (hrefs C.st.length (by omega)) hslc;have hupd:=hJ h1 (i:=i) (by omega) (o:= .box Tb (.agg (bQ fs j (.ax C.st.length 0 0)))) (w:=C1.w) (by rw[hn1];rfl) rfl ⟨rfl,rfl,rfl⟩ (fun _ _=>rfl) hr (by
    refine⟨g1,by simp only[cR] at g2⊢;exact x2 _ _ _ g2,c,e,g3,by simpa[wid,D7 _ _ _ hf] using g4,?_⟩;simp only[M] at g5⊢;refine Gr (by rw[hlen];omega) hslc' fs j _ _ hf ?_;have:=Af hk h1.lay some fs _ _ 0 0 (fun q hq hql=>⟨q,rfl,hrefs q hql⟩) (fun _ _=>rfl) g5
    rwa [fQ] at this)
   refine⟨C1.dR i (.box Tb (.agg (bQ fs j (.ax C.st.length 0 0)))) C1.w,hw1,hP1,hupd.1,?_,h2.trans hupd.2 (by omega)⟩;simp only[Ctx.dR];rw[←hC1];exact Dy _ _ _ _ hi
  ·exact⟨C,rfl,rfl,hI,rfl,Ext.refl C (Nat.le_refl _)⟩
 ·exact⟨C,rfl,rfl,hI,rfl,Ext.refl C (Nat.le_refl _)⟩
theorem sk: ∀l {C},Inv C->∃C',C'.w=C.w/\C'.P=C.P/\Inv C'/\C'.st=sj l C.st/\Ext C.st.length C C'
 |[],C,hI=>⟨C,rfl,rfl,hI,rfl,Ext.refl C (Nat.le_refl _)⟩
 |(i,j,T)::l,C,hI=>by
  obtain⟨C1,a1,a2,a3,a4,a5⟩:=Qm hI i j T;obtain⟨C2,b1,b2,b3,b4,b5⟩:=sk l a3;refine⟨_,b1.trans a1,b2.trans a2,b3,by rw[b4,a4];rfl,a5.trans b5 ?_⟩;rcases Nat.eq_zero_or_pos C.st.length with h|h
  ·omega
  ·have:=(a5.refs (C.st.length - 1) (by omega)).lt;omega
theorem Fi l{C s a}(hI:Inv C)(hs:dh C s a): ∃C',C'.w=C.w/\Inv C'/\dh C' (A3 l s) a/\Ext C.st.length C C':=by
 have key: ∃C',C'.w=C.w/\Inv C'/\dh C' {s with st:=sj l s.st} a/\Ext C.st.length C C':=by
  obtain⟨C',h1,_,h3,h4,h5⟩:=sk l hI;refine⟨_,h1,h3,?_,h5⟩;have:=hs.step hI h5
  exact⟨by rw[h4,hs.st],this.bz⟩
 unfold A3
 grind [Ext.refl]
theorem v9{C s a} P live{base}(hI:Inv C)(hs:dh C s a)(hb:base<=s.st.length)(hok:jN P live base s=true):
  ∃C',C'.w=C.w/\Inv C'/\dh C' (canon P live base s) a/\Ext base C C'/\base<=(canon P live base s).st.length:=by
 obtain⟨C1,g1,g2,g3,g4⟩:=jH live hI (s:={s with bz:=ix live s.bz 0}) ⟨hs.st,CK hs.bz⟩;obtain⟨C3,g9,ga,gb,gc⟩:=oU P (upto (jk live {s with bz:=ix live s.bz 0}).st.length) g2 g3;obtain⟨C2,gd,g6,g7,ge⟩:=Fi (AB live) ga gb;have g5:C2.w=C1.w:=gd.trans g9;have g8:Ext C1.st.length C1 C2:=gc.trans ge (by
  rcases Nat.eq_zero_or_pos C1.st.length with h|h
  ·omega
  ·have:=(gc.refs (C1.st.length - 1) (by omega)).lt;omega)
 have hpre:dh C2 (il P live s) a:=g7;unfold jN at hok;rw[←hpre.st] at hok;obtain⟨h1,h2,h3⟩:=v7 g6 hok;have hl1:C.st.length<=C1.st.length:=by
  rcases Nat.eq_zero_or_pos C.st.length with h|h
  ·omega
  ·have:=(g4.refs (C.st.length - 1) (by omega)).lt;omega
 have hsl:s.st.length=C.st.length:=by rw[hs.st]
 refine⟨C2.by (jc base C2.st (df (il P live s).bz)),g5.trans g1,h1,?_,(g4.mono (by omega)).trans ((g8.mono (by omega)).trans h2 (Nat.le_refl _)) (Nat.le_refl _),?_⟩
 ·refine⟨?_,?_⟩
  ·simp only[canon,vj,Ctx.by,hpre.st]
  ·simp only[canon,vj]
   rw[←hpre.st];exact hpre.bz.move h2.keeps g6.lay _ (fun i hi _=>by obtain⟨j,hj⟩:=h3 i hi;exact⟨j,hj,mB hj⟩)
 ·have hrefs:=h2.refs
  have e:(canon P live base s).st.length=(C2.by (jc base C2.st (df (il P live s).bz))).st.length:=by
   simp only[canon,vj,Ctx.by,hpre.st]
  rw[e];rcases Nat.eq_zero_or_pos base with h|h
  ·omega
  ·have:=(hrefs (base - 1) (by omega)).lt;omega
end Go.Dn
