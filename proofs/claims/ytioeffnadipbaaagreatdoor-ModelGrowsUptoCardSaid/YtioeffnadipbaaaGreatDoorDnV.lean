import Derived.Test.YtioeffnadipbaaaGreatDoorDnU
namespace Go.Dn
open Go
theorem kV: ∀l i,iH i l=true↔i∈l
 |[],i=>by simp[iH]
 |j::l,i=>by simp[iH,kV l i]
theorem kG{ids}: ∀{l},Cm ids l=true->∀i,i∈l->i∈ids
 |[],_,i,h=>by grind
 |j::l,h,i,a=>by
  simp[Cm] at h;rcases List.mem_cons.1 a with rfl|a
  ·grind [kV]
  ·exact kG h.2 i a
theorem mO{n}: ∀{l},Ho n l=true->∀i,i∈l->i<n
 |[],_,i,h=>by grind
 |j::l,h,i,a=>by
  simp[Ho] at h;rcases List.mem_cons.1 a with rfl|a
  ·omega
  ·exact mO h.2 i a
theorem lK: ∀{l},Bb l=true->l.Nodup
 |[],_=>by simp
 |j::l,h=>by
  simp[Bb] at h;rw[List.nodup_cons];exact⟨fun a=>by grind [kV],lK h.2⟩
theorem rq: ∀{ids i n j},j3 i ids n=some j->∃k,j=n+k/\ids[k]? =some i
 |[],_,_,_,h=>by grind [j3]
 | a::ids,i,n,j,h=>by
  simp[j3] at h;cases b:Nat.beq i a with
  |true=>
   simp_all
  |false=>
   rw[b] at h;obtain⟨k,d,c⟩:=rq h;exact⟨k+1,by omega,by grind⟩
theorem oA: ∀{ids i} n,i∈ids->∃j,j3 i ids n=some j
 |[],_,_,h=>by grind
 | a::ids,i,n,h=>by
  simp[j3];cases b:Nat.beq i a with
  |true=>simp
  |false=>
   rcases List.mem_cons.1 h with rfl|h
   ·simp_all
   ·exact oA _ h
theorem sI{st}: ∀{ids k i},ids[k]? =some i->ay (fY st ids) k=ay st i
 |[],_,_,h=>by grind
 |a::ids,0,i,h=>by simp at h;subst h;rfl
 |a::ids,k+1,i,h=>by simp[fY];exact sI (by grind)
theorem ko{st}: ∀ids,(fY st ids).length=ids.length
 |[]=>rfl
 |a::ids=>by simp[fY,ko _]
theorem jk ρ: ∀l,(gg ρ l).length=l.length
 |[]=>rfl
 |a::l=>by simp[gg,jk _ l]
theorem pE ρ: ∀l k,ay (gg ρ l) k=fm ρ (ay l k)
 |[],_=>rfl
 |a::l,0=>rfl
 |a::l,k+1=>by exact pE _ l k
theorem qF{st}: ∀{ids i j},i∈ids->j∈zA (ay st i)->j∈xF st ids
 |[],_,_,h,_=>by grind
 |a::ids,i,j,h,b=>by
  simp[xF];rcases List.mem_cons.1 h with rfl|h
  ·grind
  ·exact .inr (qF h b)
theorem Ap ρ o:gX (fm ρ o)=gX o:=by cases o<;>rfl
theorem Ek: ∀{n i},i<n->i∈upto n
 |0,_,h=>by omega
 |n+1,i,h=>by
  simp[upto];rcases Nat.lt_or_ge i n with a|a
  ·exact .inl (Ek a)
  grind
theorem rO{ids}: ∀{l},u9 ids l=true->∀i,i∈l->j3 i ids 0=some i
 |[],_,_,h=>by grind
 |j::l,h,i,a=>by
  simp[u9] at h;rcases List.mem_cons.1 a with rfl|a
  ·grind [Nat.eq_of_beq_eq_true]
  ·exact rO h.2 i a
def Ctx.by(C:Ctx)(ids:List _):={C with st:=gg (fun i=>j3 i ids 0) (fY C.st ids),ι:=fun k=>C.ι (ids.getD k 0)}
theorem mT{C:Ctx}{ids k i}(h:ids[k]? =some i):ay (C.by ids).st k=fm (fun i=>j3 i ids 0) (ay C.st i)/\(C.by ids).ι k=C.ι i:=by grind [Ctx.by,pE,sI]
theorem nZ{C:Ctx}{ids}:(C.by ids).st.length=ids.length:=by simp[Ctx.by,jk,ko]
theorem ml{C ids i j}(h:j3 i ids 0=some j):b8 C (C.by ids) i j:=by
 obtain⟨k,v,l⟩:=rq h;obtain rfl:j=k:=by omega
 obtain⟨d,e⟩:=mT (C:=C) l;refine⟨by rw[nZ];exact(List.getElem?_eq_some_iff.1 l).1,fun T xs b=>?_,fun T a b=>?_,fun K V y b=>?_,fun r b=>?_,fun m n o b=>?_,fun t b=>?_,fun s p b=>?_,fun K V o x u b=>?_,fun T E z w b=>?_⟩
 ·rw[d,Ap] at b;exact⟨xs,b,e,Nat.le_refl _⟩
 ·rw[d] at b
  cases c:ay C.st i<;>rw[c] at b<;>simp[fm] at b
  obtain⟨rfl,_⟩:=b;exact⟨_,rfl,e⟩
 ·rw[d] at b
  cases c:ay C.st i<;>rw[c] at b<;>simp[fm] at b
  obtain⟨rfl,rfl,rfl⟩:=b;exact⟨_,rfl,e,fun g f q=>⟨g,f,q,dZ.refl _ _⟩⟩
 ·rw[d] at b
  cases c:ay C.st i<;>rw[c] at b<;>simp[fm] at b
  exact⟨_,rfl,e⟩
 ·rw[d] at b
  cases c:ay C.st i<;>rw[c] at b<;>simp[fm] at b
  obtain⟨_,rfl,_⟩:=b;exact⟨_,_,rfl,e⟩
 ·rw[d] at b
  cases c:ay C.st i<;>rw[c] at b<;>simp[fm] at b
  exact⟨_,rfl,e⟩
 ·rw[d] at b
  cases c:ay C.st i<;>rw[c] at b<;>simp[fm] at b
  obtain⟨rfl,_⟩:=b;exact⟨_,rfl,e⟩
 ·rw[d] at b
  cases c:ay C.st i<;>rw[c] at b<;>simp[fm] at b
  obtain⟨rfl,rfl,rfl,rfl,_⟩:=b;exact⟨_,rfl,e⟩
 ·rw[d] at b
  cases c:ay C.st i<;>rw[c] at b<;>simp[fm] at b
  obtain⟨rfl,rfl,rfl,_⟩:=b;exact⟨_,_,rfl,e,rfl,fun _ _ _ h=>h⟩
theorem vO{C}(o:Inv C){base n ids}(d:pY base C.st n ids=true):Inv (C.by ids)/\Ext base C (C.by ids)/\∀i,i∈n->∃j,j3 i ids 0=some j:=by
 simp only[pY,ar5] at d;obtain⟨⟨⟨⟨J,H⟩,E⟩,L⟩,F⟩:=d;have I:=lK J;have s:bP C (C.by ids):=⟨rfl,fun _ h=>h,fun _ _=>rfl⟩
 have g: ∀k,k<ids.length->∃i,ids[k]? =some i/\i<C.st.length:=fun k s=>⟨ids[k],by simp[s],mO H _ (List.getElem_mem s)⟩
 refine⟨⟨o.lay,fun k a=>?_,fun k l a A z d w=>?_,o.xs,fun k a d=>?_,o.nT,o.lH s⟩,⟨s,Nat.le_refl _,rfl,rfl,rfl,fun _ _ _=>rfl,fun b u=> .inl u,fun b u=>?_,fun i f=>ml (rO E i (Ek f)),fun _=> .inl ⟨rfl,rfl⟩,rfl⟩,fun i f=>oA 0 (kG L i f)⟩
 ·rw[nZ] at a
  obtain⟨i,f,c⟩:=g k a;obtain⟨r,p⟩:=mT (C:=C) f;rw[r,p];have v:i∈ids:=List.mem_iff_getElem?.2 ⟨k,f⟩;refine(o.obj i c).move s o.lay _ (fun j y q=>?_) (o.eY i c) ⟨fun b x u=>⟨(o.du ⟨i,c,x,u.symm⟩).2,rfl⟩,fun _ _=>⟨Iff.rfl,fun _=>rfl⟩,dO.refl _,Nat.le_refl _,fun _ _=>rfl⟩;obtain⟨m,D⟩:=oA (ids:=ids) 0 (kG F j (qF v y));exact⟨m,D,ml D⟩
 ·rw[nZ] at a A
  obtain⟨i,f,c⟩:=g k a;obtain⟨j,y,q⟩:=g l A;obtain⟨r,p⟩:=mT (C:=C) f;obtain⟨K,B⟩:=mT (C:=C) y;rw[r,p,dB] at d;rw[K,B,dB] at w;rw[p,B];refine o.tX i j c q (fun e=>z ?_) d w
  grind [List.getElem?_eq_some_iff,List.getElem_inj]
 ·rw[nZ] at a
  obtain⟨i,f,c⟩:=g k a;obtain⟨r,p⟩:=mT (C:=C) f;rw[r,p,dB] at d;rw[p];exact o.eY i c d
 ·obtain⟨k,a,x,t⟩:=u
  rw[nZ] at a;obtain⟨i,f,c⟩:=g k a;obtain⟨r,p⟩:=mT (C:=C) f;rw[r,p,dB] at x;rw[p] at t;exact .inl ⟨i,c,x,t⟩
theorem j5 b: ∀l n,(im b l n).length=l.length
 |[],_=>rfl
 |a::l,n=>by simp[im,j5 _ l]
theorem ry b: ∀l n i,nth (im b l n) i=nth l i\/nth (im b l n) i= .cB
 |[],_,_=> .inl rfl
 |a::l,n,0=>by
  grind [im,nth]
 |a::l,n,i+1=>by exact ry _ l _ i
theorem CS{C c a b}(h:gz C a b):gz C (im c a 0) b:=by
 refine⟨by rw[j5];exact h.1,fun i e=>?_⟩;rw[j5] at e;rcases ry _ _ 0 i with d|d
 ·rw[d];exact h.2 i e
 grind [mE]
theorem A9{C}(a:Inv C) T:Inv (C.add (.row T []) ⟨C.w.heap.size,0,true⟩ C.w)/\Ext C.st.length C (C.add (.row T []) ⟨C.w.heap.size,0,true⟩ C.w):=
 fL a    rfl (Nat.le_refl _) ⟨rfl,rfl,rfl⟩ (by simp) ⟨trivial,by simp⟩
theorem s5{C:Ctx} T:lv (C.add (.row T []) ⟨C.w.heap.size,0,true⟩ C.w) C.st.length 0 0 (.slice none 0 0):=by
 refine⟨fun b xs a=>?_,fun _ _ _ _ a=>by grind [bw]⟩
 grind [bw]
theorem jC: ∀live {C s a},Inv C->db C s a->∃C',C'.w=C.w/\Inv C'/\db C' (jg live s) a/\Ext C.st.length C C'
 |[],C,s,a,hI,hs=>⟨C,rfl,hI,hs,Ext.refl C (Nat.le_refl _)⟩
 |(r,none)::l,C,s,a,hI,hs=>by simp only[jg];exact jC l hI hs
 | (r,some T)::l,C,s,a,hI,hs=>by
  simp only[jg];split
  ·rename_i hr
   have hsame:a.tmps.setIfInBounds r (a.tmps.getD r undef)=a.tmps:=by
    apply Array.ext_getElem?;intro k;by_cases hk:r=k
    ·subst hk
     by_cases hlt':r<a.tmps.size
     ·simp[hlt']
     ·simp[hlt']
    ·rw[Array.getElem?_setIfInBounds_ne hk]
   split
   ·have hv:Rel C (.ah (T - Rz) []) (a.tmps.getD r undef):=by
     rcases Nat.lt_or_ge r s.bC.length with hlt|hge
     ·have hv:=hs.bC.2 r hlt
      rw[hr] at hv;rw[aX hv];refine dR rfl rfl ?_ hI;simp only[M];exact⟨trivial,none,0,rfl,Nat.le_refl _,fun h=>absurd rfl h⟩
     ·rw[fj _ _ hge] at hr;cases hr
    have hput:=hs.bC.put hv (d:=r);rw[hsame] at hput;obtain⟨C',g1,g2,g3,g4⟩:=jC l (s:={bC:=bH s.bC r (.ah (T - Rz) []),st:=s.st}) (a:=a) hI ⟨hs.st,hput⟩;exact⟨C',g1,g2,g3,g4⟩
   obtain⟨h1,h2⟩:=A9 hI T;have hst:=hs.step hI h2;rcases Nat.lt_or_ge r s.bC.length with hlt|hge
   ·have hv:=hs.bC.2 r hlt
    rw[hr] at hv;have hv':=aX hv;have hrel:Rel (C.add (.row T []) ⟨C.w.heap.size,0,true⟩ C.w) (.ak C.st.length 0 0) (a.tmps.getD r undef):=by
     rw[hv'];refine dR rfl rfl ?_ h1;simp only[M];exact⟨by simp[Ctx.add],_,rfl,rfl,s5 T⟩
    have hput:=hst.bC.put hrel (d:=r);rw[hsame] at hput;obtain⟨C',g1,g2,g3,g4⟩:=jC l (s:={bC:=bH s.bC r (.ak s.st.length 0 0),st:=s.st++[.row T []]}) (a:=a) h1
     ⟨by simp[Ctx.add,hs.st],by rw[←hs.st];exact hput⟩
    exact⟨C',g1,g2,g3,h2.trans g4 (by simp[Ctx.add])⟩
   ·rw[fj _ _ hge] at hr;cases hr
  ·exact jC l hI hs
theorem Kk{C s a} P i(hI:Inv C)(hs:db C s a): ∃C',C'.w=C.w/\Inv C'/\db C' (FQ P i s) a/\Ext C.st.length C C':=by
 unfold FQ;split
 ·rename_i Tb hst
  split
  ·rename_i Te _
   obtain⟨h1,h2⟩:=A9 hI Te;rw[←hs.st] at hst;have hi:i<C.st.length:=by
    rcases Nat.lt_or_ge i C.st.length with h|h
    ·exact h
    ·rw[eR _ _ h] at hst;cases hst
   generalize hC1:C.add (.row Te []) ⟨C.w.heap.size,0,true⟩ C.w=C1 at*
   have hw1:C1.w=C.w:=by rw[←hC1];rfl
   have hl1:C1.st.length=C.st.length+1:=by rw[←hC1];simp[Ctx.add]
   have hn1:ay C1.st i= .box Tb (.lit (.slice none 0 0)):=by rw[←hC1,(ct hi).1];exact hst
   have hι1:C1.ι i=C.ι i:=by rw[←hC1];exact(ct hi).2
   have hslc:lv C1 C.st.length 0 0 (.slice none 0 0):=by rw[←hC1];exact s5 Te
   have hob:=h1.obj i (by omega);rw[hn1] at hob;obtain⟨g1,g2,c,e,g3,g4,g5⟩:=hob;have hr:b8 C1 (C1.dY i (.box Tb (.ak C.st.length 0 0)) C1.w) i i:=nr (by omega) hn1 Tb _ rfl rfl;have hk:bP C1 (C1.dY i (.box Tb (.ak C.st.length 0 0)) C1.w):=⟨rfl,fun _ h=>h,fun _ _=>rfl⟩
   have hupd:=iy h1 (i:=i) (by omega) (o:= .box Tb (.ak C.st.length 0 0)) (w:=C1.w) (by rw[hn1];rfl) rfl ⟨rfl,rfl,rfl⟩ (fun _ _=>rfl) hr (by
    refine⟨g1,rfl,c,e,g3,by simpa[wid] using g4,?_⟩;simp only[M] at g5⊢;refine⟨by simp only[Ctx.dY,a9];omega,_,g5.1,rfl,?_⟩;refine lv.move hk (eh h1 (by omega) (by simp only[Ctx.dY,a9];omega) (bG _ _ _ _ (by omega)) rfl (fun _ _ _=>⟨rfl,rfl,rfl⟩)) hslc)
   refine⟨C1.dY i (.box Tb (.ak C.st.length 0 0)) C1.w,hw1,hupd.1,?_,h2.trans hupd.2 (by omega)⟩;have:=(hs.step hI h2).step h1 hupd.2
   refine⟨?_,this.bC⟩;simp only[Ctx.dY,←hC1,Ctx.add,hs.st];have: ∀(l m:List Obj) (i:Nat) (x:Obj),i<l.length->df (l++m) i x=df l i x++m:=by
    intro l;induction l with
    |nil=>intro m i x h;simp at h
    |cons a l ih=>
     intro m i x h;cases i with
     |zero=>rfl
     |succ i=>simp only[List.cons_append,df];rw[ih m i x (by simpa using h)]
   exact this _ _ _ _ (by rw[←hs.st];exact hi)
  ·exact⟨C,rfl,hI,hs,Ext.refl C (Nat.le_refl _)⟩
 ·exact⟨C,rfl,hI,hs,Ext.refl C (Nat.le_refl _)⟩
theorem oF P: ∀is {C s a},Inv C->db C s a->∃C',C'.w=C.w/\Inv C'/\db C' (rG P is s) a/\Ext C.st.length C C'
 |[],C,s,a,hI,hs=>⟨C,rfl,hI,hs,Ext.refl C (Nat.le_refl _)⟩
 |i::is,C,s,a,hI,hs=>by
  obtain⟨C1,g1,g2,g3,g4⟩:=Kk P i hI hs;obtain⟨C2,g5,g6,g7,g8⟩:=oF P _ g2 g3;refine⟨_,g5.trans g1,g6,g7,g4.trans g8 ?_⟩;rcases Nat.eq_zero_or_pos C.st.length with h|h
  ·omega
  ·have:=(g4.refs (C.st.length - 1) (by omega)).lt;omega
theorem Ep: ∀l j k,nth l j= .lit (.slice none 0 0)->eF (bH l j (.ak k 0 0))=eF l
 |[],_,_,h=>by rfl
 |a::l,0,k,h=>by
  subst h;rfl
 |a::l,j+1,k,h=>by
  simp[bH,eF,Ep l j k h]
theorem xW: ∀l j k,dJ l=true->dJ (bH l j (.ak k 0 0))=true
 |[],_,_,_=>rfl
 |a::l,0,k,h=>by
  simp[dJ,bH] at h⊢;exact⟨rfl,h.2⟩
 |a::l,j+1,k,h=>by
  simp[dJ,bH] at h⊢;exact⟨h.1,xW l j k h.2⟩
theorem Hh{C k}(d:k<C.st.length)(c:lv C k 0 0 (.slice none 0 0)): ∀l j s o,nth l j= .lit (.slice none 0 0)->ML C l s o->ML C (bH l j (.ak k 0 0)) s o
 |[],_,_,_,h,_=>by grind [nth]
 |a::l,0,s,o,h,b=>by
  grind [nth,bH,ML,M,wid]
 |a::l,j+1,s,o,h,b=>by
  exact⟨b.1,Hh d c l j s _ h b.2⟩
theorem DU: ∀l m i x,i<l.length->df (l++m) i x=df l i x++m
 |[],_,_,_,h=>by grind
 |a::l,m,0,x,_=>rfl
 |a::l,m,i+1,x,h=>by
  simp[df];rw[DU l m i x (by grind)]
theorem RE{C}(hI:Inv C) i j T: ∃C',C'.w=C.w/\C'.P=C.P/\Inv C'/\C'.st=VZ i j T C.st/\Ext C.st.length C C':=by
 unfold VZ;split
 ·rename_i Tb fs hst
  split
  ·rename_i hf
   obtain⟨h1,h2⟩:=A9 hI T;have hi:i<C.st.length:=by
    grind [Nat.lt_or_ge,eR]
   generalize hC1:C.add (.row T []) ⟨C.w.heap.size,0,true⟩ C.w=C1 at*
   have hw1:C1.w=C.w:=by rw[←hC1];rfl
   have hP1:C1.P=C.P:=by rw[←hC1];rfl
   have hl1:C1.st.length=C.st.length+1:=by rw[←hC1];simp[Ctx.add]
   have hn1:ay C1.st i= .box Tb (.agg fs):=by rw[←hC1,(ct hi).1];exact hst
   have hslc:lv C1 C.st.length 0 0 (.slice none 0 0):=by rw[←hC1];exact s5 T
   have hob:=h1.obj i (by omega);rw[hn1] at hob;obtain⟨g1,g2,c,e,g3,g4,g5⟩:=hob;have hr:b8 C1 (C1.dY i (.box Tb (.agg (bH fs j (.ak C.st.length 0 0)))) C1.w) i i:=nr (by omega) hn1 Tb _ rfl rfl;have hk:bP C1 (C1.dY i (.box Tb (.agg (bH fs j (.ak C.st.length 0 0)))) C1.w):=⟨rfl,fun _ h=>h,fun _ _=>rfl⟩
   have hlen:(C1.dY i (.box Tb (.agg (bH fs j (.ak C.st.length 0 0)))) C1.w).st.length=C1.st.length:=a9 _ _ _;have hrefs: ∀q,q<C1.st.length->b8 C1 _ q q:=fun q hq=>by
    by_cases hqi:i=q
    ·subst hqi;exact hr
    ·exact eh h1 hq (by omega) (bG _ _ _ _ hqi) rfl (fun _ _ _=>⟨rfl,rfl,rfl⟩)
   have hslc':=lv.move hk (hrefs C.st.length (by omega)) hslc;have hupd:=iy h1 (i:=i) (by omega) (o:= .box Tb (.agg (bH fs j (.ak C.st.length 0 0)))) (w:=C1.w) (by rw[hn1];rfl) rfl ⟨rfl,rfl,rfl⟩ (fun _ _=>rfl) hr (by
    refine⟨g1,by simp only[cH] at g2⊢;exact xW _ _ _ g2,c,e,g3,by simpa[wid,Ep _ _ _ hf] using g4,?_⟩;simp only[M] at g5⊢;refine Hh (by rw[hlen];omega) hslc' fs j _ _ hf ?_;have:=Ab hk h1.lay some fs _ _ 0 0 (fun q hq hql=>⟨q,rfl,hrefs q hql⟩) (fun _ _=>rfl) g5
    rwa [gm] at this)
   refine⟨C1.dY i (.box Tb (.agg (bH fs j (.ak C.st.length 0 0)))) C1.w,hw1,hP1,hupd.1,?_,h2.trans hupd.2 (by omega)⟩;simp only[Ctx.dY];rw[←hC1];exact DU _ _ _ _ hi
  ·exact⟨C,rfl,rfl,hI,rfl,Ext.refl C (Nat.le_refl _)⟩
 ·exact⟨C,rfl,rfl,hI,rfl,Ext.refl C (Nat.le_refl _)⟩
theorem rH: ∀l {C},Inv C->∃C',C'.w=C.w/\C'.P=C.P/\Inv C'/\C'.st=wY l C.st/\Ext C.st.length C C'
 |[],C,hI=>⟨C,rfl,rfl,hI,rfl,Ext.refl C (Nat.le_refl _)⟩
 |(i,j,T)::l,C,hI=>by
  obtain⟨C1,a1,a2,a3,a4,a5⟩:=RE hI i j T;obtain⟨C2,b1,b2,b3,b4,b5⟩:=rH l a3;refine⟨_,b1.trans a1,b2.trans a2,b3,by rw[b4,a4];rfl,a5.trans b5 ?_⟩;rcases Nat.eq_zero_or_pos C.st.length with h|h
  ·omega
  ·have:=(a5.refs (C.st.length - 1) (by omega)).lt;omega
theorem FR l{C s a}(hI:Inv C)(hs:db C s a): ∃C',C'.w=C.w/\Inv C'/\db C' (AY l s) a/\Ext C.st.length C C':=by
 have key: ∃C',C'.w=C.w/\Inv C'/\db C' {s with st:=wY l s.st} a/\Ext C.st.length C C':=by
  obtain⟨C',h1,_,h3,h4,h5⟩:=rH l hI;refine⟨_,h1,h3,?_,h5⟩;have:=hs.step hI h5
  exact⟨by rw[h4,hs.st],this.bC⟩
 unfold AY
 grind [Ext.refl]
theorem vR{C s a} P live{base}(hI:Inv C)(hs:db C s a)(hb:base<=s.st.length)(hok:jI P live base s=true):
  ∃C',C'.w=C.w/\Inv C'/\db C' (canon P live base s) a/\Ext base C C'/\base<=(canon P live base s).st.length:=by
 obtain⟨C1,g1,g2,g3,g4⟩:=jC live hI (s:={s with bC:=im live s.bC 0}) ⟨hs.st,CS hs.bC⟩;obtain⟨C3,g9,ga,gb,gc⟩:=oF P (upto (jg live {s with bC:=im live s.bC 0}).st.length) g2 g3;obtain⟨C2,gd,g6,g7,ge⟩:=FR (As live) ga gb;have g5:C2.w=C1.w:=gd.trans g9;have g8:Ext C1.st.length C1 C2:=gc.trans ge (by
  rcases Nat.eq_zero_or_pos C1.st.length with h|h
  ·omega
  ·have:=(gc.refs (C1.st.length - 1) (by omega)).lt;omega)
 have hpre:db C2 (hR P live s) a:=g7;unfold jI at hok;rw[←hpre.st] at hok;obtain⟨h1,h2,h3⟩:=vO g6 hok;have hl1:C.st.length<=C1.st.length:=by
  rcases Nat.eq_zero_or_pos C.st.length with h|h
  ·omega
  ·have:=(g4.refs (C.st.length - 1) (by omega)).lt;omega
 have hsl:s.st.length=C.st.length:=by rw[hs.st]
 refine⟨C2.by (iX base C2.st (cX (hR P live s).bC)),g5.trans g1,h1,?_,(g4.mono (by omega)).trans ((g8.mono (by omega)).trans h2 (Nat.le_refl _)) (Nat.le_refl _),?_⟩
 ·refine⟨?_,?_⟩
  ·simp only[canon,uT,Ctx.by,hpre.st]
  ·simp only[canon,uT]
   rw[←hpre.st];exact hpre.bC.move h2.keeps g6.lay _ (fun i hi _=>by obtain⟨j,hj⟩:=h3 i hi;exact⟨j,hj,ml hj⟩)
 ·have hrefs:=h2.refs
  have e:(canon P live base s).st.length=(C2.by (iX base C2.st (cX (hR P live s).bC))).st.length:=by
   simp only[canon,uT,Ctx.by,hpre.st]
  rw[e];rcases Nat.eq_zero_or_pos base with h|h
  ·omega
  ·have:=(hrefs (base - 1) (by omega)).lt;omega
end Go.Dn
