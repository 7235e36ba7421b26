import Derived.Test.YtioeffnadipbaaaGreatDoorDnU
namespace Go.Dn
open Go
theorem lJ: ∀l i,jr i l=true↔i∈l
 |[],i=>by simp[jr]
 |j::l,i=>by simp[jr,lJ l i]
theorem lu{ids}: ∀{l},D0 ids l=true->∀i,i∈l->i∈ids
 |[],_,i,h=>by grind
 |j::l,h,i,a=>by
  simp[D0] at h;rcases List.mem_cons.1 a with rfl|a
  ·grind [lJ]
  ·exact lu h.2 i a
theorem nN{n}: ∀{l},I4 n l=true->∀i,i∈l->i<n
 |[],_,i,h=>by grind
 |j::l,h,i,a=>by
  simp[I4] at h;rcases List.mem_cons.1 a with rfl|a
  ·omega
  ·exact nN h.2 i a
theorem mr: ∀{l},CA l=true->l.Nodup
 |[],_=>by simp
 |j::l,h=>by
  simp[CA] at h;rw[List.nodup_cons];exact⟨fun a=>by grind [lJ],mr h.2⟩
theorem sC: ∀{ids i n j},kD i ids n=some j->∃k,j=n+k/\ids[k]? =some i
 |[],_,_,_,h=>by grind [kD]
 | a::ids,i,n,j,h=>by
  simp[kD] at h;cases b:Nat.beq i a with
  |true=>
   simp_all
  |false=>
   rw[b] at h;obtain⟨k,d,c⟩:=sC h;exact⟨k+1,by omega,by grind⟩
theorem py: ∀{ids i} n,i∈ids->∃j,kD i ids n=some j
 |[],_,_,h=>by grind
 | a::ids,i,n,h=>by
  simp[kD];cases b:Nat.beq i a with
  |true=>simp
  |false=>
   rcases List.mem_cons.1 h with rfl|h
   ·simp_all
   ·exact py _ h
theorem ua{st}: ∀{ids k i},ids[k]? =some i->ay (gF st ids) k=ay st i
 |[],_,_,h=>by grind
 |a::ids,0,i,h=>by simp at h;subst h;rfl
 |a::ids,k+1,i,h=>by simp[gF];exact ua (by grind)
theorem kX{st}: ∀ids,(gF st ids).length=ids.length
 |[]=>rfl
 |a::ids=>by simp[gF,kX _]
theorem jL ρ: ∀l,(gJ ρ l).length=l.length
 |[]=>rfl
 |a::l=>by simp[gJ,jL _ l]
theorem qz ρ: ∀l k,ay (gJ ρ l) k=fI ρ (ay l k)
 |[],_=>rfl
 |a::l,0=>rfl
 |a::l,k+1=>by exact qz _ l k
theorem rO{st}: ∀{ids i j},i∈ids->j∈A4 (ay st i)->j∈yW st ids
 |[],_,_,h,_=>by grind
 |a::ids,i,j,h,b=>by
  simp[yW];rcases List.mem_cons.1 h with rfl|h
  ·grind
  ·exact .inr (rO h b)
theorem BM ρ o:iL (fI ρ o)=iL o:=by cases o<;>rfl
theorem F7: ∀{n i},i<n->i∈upto n
 |0,_,h=>by omega
 |n+1,i,h=>by
  simp[upto];rcases Nat.lt_or_ge i n with a|a
  ·exact .inl (F7 a)
  grind
theorem s5{ids}: ∀{l},wK ids l=true->∀i,i∈l->kD i ids 0=some i
 |[],_,_,h=>by grind
 |j::l,h,i,a=>by
  simp[wK] at h;rcases List.mem_cons.1 a with rfl|a
  ·grind [Nat.eq_of_beq_eq_true]
  ·exact s5 h.2 i a
def Ctx.by(C:Ctx)(ids:List _):={C with st:=gJ (fun i=>kD i ids 0) (gF C.st ids),ι:=fun k=>C.ι (ids.getD k 0)}
theorem nQ{C:Ctx}{ids k i}(h:ids[k]? =some i):ay (C.by ids).st k=fI (fun i=>kD i ids 0) (ay C.st i)/\(C.by ids).ι k=C.ι i:=by grind [Ctx.by,qz,ua]
theorem o7{C:Ctx}{ids}:(C.by ids).st.length=ids.length:=by simp[Ctx.by,jL,kX]
theorem nd{C ids i j}(h:kD i ids 0=some j):cj C (C.by ids) i j:=by
 obtain⟨k,v,l⟩:=sC h;obtain rfl:j=k:=by omega
 obtain⟨d,e⟩:=nQ (C:=C) l;refine⟨by rw[o7];exact(List.getElem?_eq_some_iff.1 l).1,fun T xs b=>?_,fun T a b=>?_,fun K V y b=>?_,fun r b=>?_,fun m n o b=>?_,fun t b=>?_,fun s p b=>?_,fun K V o x u b=>?_,fun T E z w b=>?_⟩
 ·rw[d,BM] at b;exact⟨xs,b,e,Nat.le_refl _⟩
 ·rw[d] at b
  cases c:ay C.st i<;>rw[c] at b<;>simp[fI] at b
  obtain⟨rfl,_⟩:=b;exact⟨_,rfl,e⟩
 ·rw[d] at b
  cases c:ay C.st i<;>rw[c] at b<;>simp[fI] at b
  obtain⟨rfl,rfl,rfl⟩:=b;exact⟨_,rfl,e,fun g f q=>⟨g,f,q,eE.refl _ _⟩⟩
 ·rw[d] at b
  cases c:ay C.st i<;>rw[c] at b<;>simp[fI] at b
  exact⟨_,rfl,e⟩
 ·rw[d] at b
  cases c:ay C.st i<;>rw[c] at b<;>simp[fI] at b
  obtain⟨_,rfl,_⟩:=b;exact⟨_,_,rfl,e⟩
 ·rw[d] at b
  cases c:ay C.st i<;>rw[c] at b<;>simp[fI] at b
  exact⟨_,rfl,e⟩
 ·rw[d] at b
  cases c:ay C.st i<;>rw[c] at b<;>simp[fI] at b
  obtain⟨rfl,_⟩:=b;exact⟨_,rfl,e⟩
 ·rw[d] at b
  cases c:ay C.st i<;>rw[c] at b<;>simp[fI] at b
  obtain⟨rfl,rfl,rfl,rfl,_⟩:=b;exact⟨_,rfl,e⟩
 ·rw[d] at b
  cases c:ay C.st i<;>rw[c] at b<;>simp[fI] at b
  obtain⟨rfl,rfl,rfl,_⟩:=b;exact⟨_,_,rfl,e,rfl,fun _ _ _ h=>h⟩
theorem xi{C}(o:Inv C){base n ids}(d:qY base C.st n ids=true):Inv (C.by ids)/\Ext base C (C.by ids)/\∀i,i∈n->∃j,kD i ids 0=some j:=by
 simp only[qY,aC6] at d;obtain⟨⟨⟨⟨J,H⟩,E⟩,L⟩,F⟩:=d;have I:=mr J;have s:bW C (C.by ids):=⟨rfl,fun _ h=>h,fun _ _=>rfl⟩
 have g: ∀k,k<ids.length->∃i,ids[k]? =some i/\i<C.st.length:=fun k s=>⟨ids[k],by simp[s],nN H _ (List.getElem_mem s)⟩
 refine⟨⟨o.lay,fun k a=>?_,fun k l a A z d w=>?_,o.xs,fun k a d=>?_,o.oX,o.mo s⟩,⟨s,Nat.le_refl _,rfl,rfl,rfl,fun _ _ _=>rfl,fun b u=> .inl u,fun b u=>?_,fun i f=>nd (s5 E i (F7 f)),fun _=> .inl ⟨rfl,rfl⟩,rfl⟩,fun i f=>py 0 (lu L i f)⟩
 ·rw[o7] at a
  obtain⟨i,f,c⟩:=g k a;obtain⟨r,p⟩:=nQ (C:=C) f;rw[r,p];have v:i∈ids:=List.mem_iff_getElem?.2 ⟨k,f⟩;refine(o.obj i c).move s o.lay _ (fun j y q=>?_) (o.fz i c) ⟨fun b x u=>⟨(o.dG ⟨i,c,x,u.symm⟩).2,rfl⟩,fun _ _=>⟨Iff.rfl,fun _=>rfl⟩,er.refl _,Nat.le_refl _,fun _ _=>rfl⟩;obtain⟨m,D⟩:=py (ids:=ids) 0 (lu F j (rO v y));exact⟨m,D,nd D⟩
 ·rw[o7] at a A
  obtain⟨i,f,c⟩:=g k a;obtain⟨j,y,q⟩:=g l A;obtain⟨r,p⟩:=nQ (C:=C) f;obtain⟨K,B⟩:=nQ (C:=C) y;rw[r,p,dU] at d;rw[K,B,dU] at w;rw[p,B];refine o.tH i j c q (fun e=>z ?_) d w
  grind [List.getElem?_eq_some_iff,List.getElem_inj]
 ·rw[o7] at a
  obtain⟨i,f,c⟩:=g k a;obtain⟨r,p⟩:=nQ (C:=C) f;rw[r,p,dU] at d;rw[p];exact o.fz i c d
 ·obtain⟨k,a,x,t⟩:=u
  rw[o7] at a;obtain⟨i,f,c⟩:=g k a;obtain⟨r,p⟩:=nQ (C:=C) f;rw[r,p,dU] at x;rw[p] at t;exact .inl ⟨i,c,x,t⟩
theorem kF b: ∀l n,(iZ b l n).length=l.length
 |[],_=>rfl
 |a::l,n=>by simp[iZ,kF _ l]
theorem sG b: ∀l n i,nth (iZ b l n) i=nth l i\/nth (iZ b l n) i= .cP
 |[],_,_=> .inl rfl
 |a::l,n,0=>by
  grind [iZ,nth]
 |a::l,n,i+1=>by exact sG _ l _ i
theorem Ev{C c a b}(h:hJ C a b):hJ C (iZ c a 0) b:=by
 refine⟨by rw[kF];exact h.1,fun i e=>?_⟩;rw[kF] at e;rcases sG _ _ 0 i with d|d
 ·rw[d];exact h.2 i e
 grind [nE]
theorem Cy{C}(a:Inv C) T:Inv (C.add (.row T []) ⟨C.w.heap.size,0,true⟩ C.w)/\Ext C.st.length C (C.add (.row T []) ⟨C.w.heap.size,0,true⟩ C.w):=
 gm a    rfl (Nat.le_refl _) ⟨rfl,rfl,rfl⟩ (by simp) ⟨trivial,by simp⟩
theorem ur{C:Ctx} T:l7 (C.add (.row T []) ⟨C.w.heap.size,0,true⟩ C.w) C.st.length 0 0 (.slice none 0 0):=by
 refine⟨fun b xs a=>?_,fun _ _ _ _ a=>by grind [bC]⟩
 grind [bC]
theorem j5: ∀live {C s a},Inv C->dr C s a->∃C',C'.w=C.w/\Inv C'/\dr C' (jH live s) a/\Ext C.st.length C C'
 |[],C,s,a,hI,hs=>⟨C,rfl,hI,hs,Ext.refl C (Nat.le_refl _)⟩
 |(r,none)::l,C,s,a,hI,hs=>by simp only[jH];exact j5 l hI hs
 | (r,some T)::l,C,s,a,hI,hs=>by
  simp only[jH];split
  ·rename_i hr
   have hsame:a.tmps.setIfInBounds r (a.tmps.getD r undef)=a.tmps:=by
    apply Array.ext_getElem?;intro k;by_cases hk:r=k
    ·subst hk
     by_cases hlt':r<a.tmps.size
     ·simp[hlt']
     ·simp[hlt']
    ·rw[Array.getElem?_setIfInBounds_ne hk]
   split
   ·have hv:Rel C (.ah (T - TN) []) (a.tmps.getD r undef):=by
     rcases Nat.lt_or_ge r s.bF.length with hlt|hge
     ·have hv:=hs.bF.2 r hlt
      rw[hr] at hv;rw[a0 hv];refine eu rfl rfl ?_ hI;simp only[M];exact⟨trivial,none,0,rfl,Nat.le_refl _,fun h=>absurd rfl h⟩
     ·rw[gr _ _ hge] at hr;cases hr
    have hput:=hs.bF.put hv (d:=r);rw[hsame] at hput;obtain⟨C',g1,g2,g3,g4⟩:=j5 l (s:={bF:=bP s.bF r (.ah (T - TN) []),st:=s.st}) (a:=a) hI ⟨hs.st,hput⟩;exact⟨C',g1,g2,g3,g4⟩
   obtain⟨h1,h2⟩:=Cy hI T;have hst:=hs.step hI h2;rcases Nat.lt_or_ge r s.bF.length with hlt|hge
   ·have hv:=hs.bF.2 r hlt
    rw[hr] at hv;have hv':=a0 hv;have hrel:Rel (C.add (.row T []) ⟨C.w.heap.size,0,true⟩ C.w) (.ak C.st.length 0 0) (a.tmps.getD r undef):=by
     rw[hv'];refine eu rfl rfl ?_ h1;simp only[M];exact⟨by simp[Ctx.add],_,rfl,rfl,ur T⟩
    have hput:=hst.bF.put hrel (d:=r);rw[hsame] at hput;obtain⟨C',g1,g2,g3,g4⟩:=j5 l (s:={bF:=bP s.bF r (.ak s.st.length 0 0),st:=s.st++[.row T []]}) (a:=a) h1
     ⟨by simp[Ctx.add,hs.st],by rw[←hs.st];exact hput⟩
    exact⟨C',g1,g2,g3,h2.trans g4 (by simp[Ctx.add])⟩
   ·rw[gr _ _ hge] at hr;cases hr
  ·exact j5 l hI hs
theorem L6{C s a} P i(hI:Inv C)(hs:dr C s a): ∃C',C'.w=C.w/\Inv C'/\dr C' (Hw P i s) a/\Ext C.st.length C C':=by
 unfold Hw;split
 ·rename_i Tb hst
  split
  ·rename_i Te _
   obtain⟨h1,h2⟩:=Cy hI Te;rw[←hs.st] at hst;have hi:i<C.st.length:=by
    rcases Nat.lt_or_ge i C.st.length with h|h
    ·exact h
    ·rw[fk _ _ h] at hst;cases hst
   generalize hC1:C.add (.row Te []) ⟨C.w.heap.size,0,true⟩ C.w=C1 at*
   have hw1:C1.w=C.w:=by rw[←hC1];rfl
   have hl1:C1.st.length=C.st.length+1:=by rw[←hC1];simp[Ctx.add]
   have hn1:ay C1.st i= .box Tb (.lit (.slice none 0 0)):=by rw[←hC1,(cD hi).1];exact hst
   have hι1:C1.ι i=C.ι i:=by rw[←hC1];exact(cD hi).2
   have hslc:l7 C1 C.st.length 0 0 (.slice none 0 0):=by rw[←hC1];exact ur Te
   have hob:=h1.obj i (by omega);rw[hn1] at hob;obtain⟨g1,g2,c,e,g3,g4,g5⟩:=hob;have hr:cj C1 (C1.eD i (.box Tb (.ak C.st.length 0 0)) C1.w) i i:=ot (by omega) hn1 Tb _ rfl rfl;have hk:bW C1 (C1.eD i (.box Tb (.ak C.st.length 0 0)) C1.w):=⟨rfl,fun _ h=>h,fun _ _=>rfl⟩
   have hupd:=jj h1 (i:=i) (by omega) (o:= .box Tb (.ak C.st.length 0 0)) (w:=C1.w) (by rw[hn1];rfl) rfl ⟨rfl,rfl,rfl⟩ (fun _ _=>rfl) hr (by
    refine⟨g1,rfl,c,e,g3,by simpa[wid] using g4,?_⟩;simp only[M] at g5⊢;refine⟨by simp only[Ctx.eD,bc];omega,_,g5.1,rfl,?_⟩;refine l7.move hk (eQ h1 (by omega) (by simp only[Ctx.eD,bc];omega) (bJ _ _ _ _ (by omega)) rfl (fun _ _ _=>⟨rfl,rfl,rfl⟩)) hslc)
   refine⟨C1.eD i (.box Tb (.ak C.st.length 0 0)) C1.w,hw1,hupd.1,?_,h2.trans hupd.2 (by omega)⟩;have:=(hs.step hI h2).step h1 hupd.2
   refine⟨?_,this.bF⟩;simp only[Ctx.eD,←hC1,Ctx.add,hs.st];have: ∀(l m:List Obj) (i:Nat) (x:Obj),i<l.length->dv (l++m) i x=dv l i x++m:=by
    intro l;induction l with
    |nil=>intro m i x h;simp at h
    |cons a l ih=>
     intro m i x h;cases i with
     |zero=>rfl
     |succ i=>simp only[List.cons_append,dv];rw[ih m i x (by simpa using h)]
   exact this _ _ _ _ (by rw[←hs.st];exact hi)
  ·exact⟨C,rfl,hI,hs,Ext.refl C (Nat.le_refl _)⟩
 ·exact⟨C,rfl,hI,hs,Ext.refl C (Nat.le_refl _)⟩
theorem pD P: ∀is {C s a},Inv C->dr C s a->∃C',C'.w=C.w/\Inv C'/\dr C' (sM P is s) a/\Ext C.st.length C C'
 |[],C,s,a,hI,hs=>⟨C,rfl,hI,hs,Ext.refl C (Nat.le_refl _)⟩
 |i::is,C,s,a,hI,hs=>by
  obtain⟨C1,g1,g2,g3,g4⟩:=L6 P i hI hs;obtain⟨C2,g5,g6,g7,g8⟩:=pD P _ g2 g3;refine⟨_,g5.trans g1,g6,g7,g4.trans g8 ?_⟩;rcases Nat.eq_zero_or_pos C.st.length with h|h
  ·omega
  ·have:=(g4.refs (C.st.length - 1) (by omega)).lt;omega
theorem Gc: ∀l j k,nth l j= .lit (.slice none 0 0)->fc (bP l j (.ak k 0 0))=fc l
 |[],_,_,h=>by rfl
 |a::l,0,k,h=>by
  subst h;rfl
 |a::l,j+1,k,h=>by
  simp[bP,fc,Gc l j k h]
theorem zd: ∀l j k,eh l=true->eh (bP l j (.ak k 0 0))=true
 |[],_,_,_=>rfl
 |a::l,0,k,h=>by
  simp[eh,bP] at h⊢;exact⟨rfl,h.2⟩
 |a::l,j+1,k,h=>by
  simp[eh,bP] at h⊢;exact⟨h.1,zd l j k h.2⟩
theorem IW{C k}(d:k<C.st.length)(c:l7 C k 0 0 (.slice none 0 0)): ∀l j s o,nth l j= .lit (.slice none 0 0)->ML C l s o->ML C (bP l j (.ak k 0 0)) s o
 |[],_,_,_,h,_=>by grind [nth]
 |a::l,0,s,o,h,b=>by
  grind [nth,bP,ML,M,wid]
 |a::l,j+1,s,o,h,b=>by
  exact⟨b.1,IW d c l j s _ h b.2⟩
theorem FD: ∀l m i x,i<l.length->dv (l++m) i x=dv l i x++m
 |[],_,_,_,h=>by grind
 |a::l,m,0,x,_=>rfl
 |a::l,m,i+1,x,h=>by
  simp[dv];rw[FD l m i x (by grind)]
theorem TS{C}(hI:Inv C) i j T: ∃C',C'.w=C.w/\C'.P=C.P/\Inv C'/\C'.st=Ye i j T C.st/\Ext C.st.length C C':=by
 unfold Ye;split
 ·rename_i Tb fs hst
  split
  ·rename_i hf
   obtain⟨h1,h2⟩:=Cy hI T;have hi:i<C.st.length:=by
    grind [Nat.lt_or_ge,fk]
   generalize hC1:C.add (.row T []) ⟨C.w.heap.size,0,true⟩ C.w=C1 at*
   have hw1:C1.w=C.w:=by rw[←hC1];rfl
   have hP1:C1.P=C.P:=by rw[←hC1];rfl
   have hl1:C1.st.length=C.st.length+1:=by rw[←hC1];simp[Ctx.add]
   have hn1:ay C1.st i= .box Tb (.agg fs):=by rw[←hC1,(cD hi).1];exact hst
   have hslc:l7 C1 C.st.length 0 0 (.slice none 0 0):=by rw[←hC1];exact ur T
   have hob:=h1.obj i (by omega);rw[hn1] at hob;obtain⟨g1,g2,c,e,g3,g4,g5⟩:=hob;have hr:cj C1 (C1.eD i (.box Tb (.agg (bP fs j (.ak C.st.length 0 0)))) C1.w) i i:=ot (by omega) hn1 Tb _ rfl rfl;have hk:bW C1 (C1.eD i (.box Tb (.agg (bP fs j (.ak C.st.length 0 0)))) C1.w):=⟨rfl,fun _ h=>h,fun _ _=>rfl⟩
   have hlen:(C1.eD i (.box Tb (.agg (bP fs j (.ak C.st.length 0 0)))) C1.w).st.length=C1.st.length:=bc _ _ _;have hrefs: ∀q,q<C1.st.length->cj C1 _ q q:=fun q hq=>by
    by_cases hqi:i=q
    ·subst hqi;exact hr
    ·exact eQ h1 hq (by omega) (bJ _ _ _ _ hqi) rfl (fun _ _ _=>⟨rfl,rfl,rfl⟩)
   have hslc':=l7.move hk (hrefs C.st.length (by omega)) hslc;have hupd:=jj h1 (i:=i) (by omega) (o:= .box Tb (.agg (bP fs j (.ak C.st.length 0 0)))) (w:=C1.w) (by rw[hn1];rfl) rfl ⟨rfl,rfl,rfl⟩ (fun _ _=>rfl) hr (by
    refine⟨g1,by simp only[cX] at g2⊢;exact zd _ _ _ g2,c,e,g3,by simpa[wid,Gc _ _ _ hf] using g4,?_⟩;simp only[M] at g5⊢;refine IW (by rw[hlen];omega) hslc' fs j _ _ hf ?_;have:=Bx hk h1.lay some fs _ _ 0 0 (fun q hq hql=>⟨q,rfl,hrefs q hql⟩) (fun _ _=>rfl) g5
    rwa [gQ] at this)
   refine⟨C1.eD i (.box Tb (.agg (bP fs j (.ak C.st.length 0 0)))) C1.w,hw1,hP1,hupd.1,?_,h2.trans hupd.2 (by omega)⟩;simp only[Ctx.eD];rw[←hC1];exact FD _ _ _ _ hi
  ·exact⟨C,rfl,rfl,hI,rfl,Ext.refl C (Nat.le_refl _)⟩
 ·exact⟨C,rfl,rfl,hI,rfl,Ext.refl C (Nat.le_refl _)⟩
theorem sO: ∀l {C},Inv C->∃C',C'.w=C.w/\C'.P=C.P/\Inv C'/\C'.st=yl l C.st/\Ext C.st.length C C'
 |[],C,hI=>⟨C,rfl,rfl,hI,rfl,Ext.refl C (Nat.le_refl _)⟩
 |(i,j,T)::l,C,hI=>by
  obtain⟨C1,a1,a2,a3,a4,a5⟩:=TS hI i j T;obtain⟨C2,b1,b2,b3,b4,b5⟩:=sO l a3;refine⟨_,b1.trans a1,b2.trans a2,b3,by rw[b4,a4];rfl,a5.trans b5 ?_⟩;rcases Nat.eq_zero_or_pos C.st.length with h|h
  ·omega
  ·have:=(a5.refs (C.st.length - 1) (by omega)).lt;omega
theorem Hx l{C s a}(hI:Inv C)(hs:dr C s a): ∃C',C'.w=C.w/\Inv C'/\dr C' (Cp l s) a/\Ext C.st.length C C':=by
 have key: ∃C',C'.w=C.w/\Inv C'/\dr C' {s with st:=yl l s.st} a/\Ext C.st.length C C':=by
  obtain⟨C',h1,_,h3,h4,h5⟩:=sO l hI;refine⟨_,h1,h3,?_,h5⟩;have:=hs.step hI h5
  exact⟨by rw[h4,hs.st],this.bF⟩
 unfold Cp
 grind [Ext.refl]
theorem xk{C s a} P live{base}(hI:Inv C)(hs:dr C s a)(hb:base<=s.st.length)(hok:kc P live base s=true):
  ∃C',C'.w=C.w/\Inv C'/\dr C' (canon P live base s) a/\Ext base C C'/\base<=(canon P live base s).st.length:=by
 obtain⟨C1,g1,g2,g3,g4⟩:=j5 live hI (s:={s with bF:=iZ live s.bF 0}) ⟨hs.st,Ev hs.bF⟩;obtain⟨C3,g9,ga,gb,gc⟩:=pD P (upto (jH live {s with bF:=iZ live s.bF 0}).st.length) g2 g3;obtain⟨C2,gd,g6,g7,ge⟩:=Hx (BT live) ga gb;have g5:C2.w=C1.w:=gd.trans g9;have g8:Ext C1.st.length C1 C2:=gc.trans ge (by
  rcases Nat.eq_zero_or_pos C1.st.length with h|h
  ·omega
  ·have:=(gc.refs (C1.st.length - 1) (by omega)).lt;omega)
 have hpre:dr C2 (iR P live s) a:=g7;unfold kc at hok;rw[←hpre.st] at hok;obtain⟨h1,h2,h3⟩:=xi g6 hok;have hl1:C.st.length<=C1.st.length:=by
  rcases Nat.eq_zero_or_pos C.st.length with h|h
  ·omega
  ·have:=(g4.refs (C.st.length - 1) (by omega)).lt;omega
 have hsl:s.st.length=C.st.length:=by rw[hs.st]
 refine⟨C2.by (jC base C2.st (df (iR P live s).bF)),g5.trans g1,h1,?_,(g4.mono (by omega)).trans ((g8.mono (by omega)).trans h2 (Nat.le_refl _)) (Nat.le_refl _),?_⟩
 ·refine⟨?_,?_⟩
  ·simp only[canon,wA,Ctx.by,hpre.st]
  ·simp only[canon,wA]
   rw[←hpre.st];exact hpre.bF.move h2.keeps g6.lay _ (fun i hi _=>by obtain⟨j,hj⟩:=h3 i hi;exact⟨j,hj,nd hj⟩)
 ·have hrefs:=h2.refs
  have e:(canon P live base s).st.length=(C2.by (jC base C2.st (df (iR P live s).bF))).st.length:=by
   simp only[canon,wA,Ctx.by,hpre.st]
  rw[e];rcases Nat.eq_zero_or_pos base with h|h
  ·omega
  ·have:=(hrefs (base - 1) (by omega)).lt;omega
end Go.Dn
