import Derived.Test.YtioeffnadipbaaaGreatDoorDnU
namespace Go.Dn
open Go
theorem kJ: ∀l i,iV i l=true↔i∈l
 |[],i=>by simp[iV]
 |j::l,i=>by simp[iV,kJ l i]
theorem k8{ids}: ∀{l},DD ids l=true->∀i,i∈l->i∈ids
 |[],_,i,h=>by grind
 |j::l,h,i,a=>by
  simp[DD] at h;rcases List.mem_cons.1 a with rfl|a
  ·grind [kJ]
  ·exact k8 h.2 i a
theorem ny{n}: ∀{l},I0 n l=true->∀i,i∈l->i<n
 |[],_,i,h=>by grind
 |j::l,h,i,a=>by
  simp[I0] at h;rcases List.mem_cons.1 a with rfl|a
  ·omega
  ·exact ny h.2 i a
theorem lE: ∀{l},Bn l=true->l.Nodup
 |[],_=>by simp
 |j::l,h=>by
  simp[Bn] at h;rw[List.nodup_cons];exact⟨fun a=>by grind [kJ],lE h.2⟩
theorem rQ: ∀{ids i n j},kb i ids n=some j->∃k,j=n+k/\ids[k]? =some i
 |[],_,_,_,h=>by grind [kb]
 | a::ids,i,n,j,h=>by
  simp[kb] at h;cases b:Nat.beq i a with
  |true=>
   simp_all
  |false=>
   rw[b] at h;obtain⟨k,d,c⟩:=rQ h;exact⟨k+1,by omega,by grind⟩
theorem oN: ∀{ids i} n,i∈ids->∃j,kb i ids n=some j
 |[],_,_,h=>by grind
 | a::ids,i,n,h=>by
  simp[kb];cases b:Nat.beq i a with
  |true=>simp
  |false=>
   rcases List.mem_cons.1 h with rfl|h
   ·simp_all
   ·exact oN _ h
theorem tR{st}: ∀{ids k i},ids[k]? =some i->ay (gu st ids) k=ay st i
 |[],_,_,h=>by grind
 |a::ids,0,i,h=>by simp at h;subst h;rfl
 |a::ids,k+1,i,h=>by simp[gu];exact tR (by grind)
theorem kn{st}: ∀ids,(gu st ids).length=ids.length
 |[]=>rfl
 |a::ids=>by simp[gu,kn _]
theorem jc ρ: ∀l,(gx ρ l).length=l.length
 |[]=>rfl
 |a::l=>by simp[gx,jc _ l]
theorem pg ρ: ∀l k,ay (gx ρ l) k=fo ρ (ay l k)
 |[],_=>rfl
 |a::l,0=>rfl
 |a::l,k+1=>by exact pg _ l k
theorem qO{st}: ∀{ids i j},i∈ids->j∈zS (ay st i)->j∈wD st ids
 |[],_,_,h,_=>by grind
 |a::ids,i,j,h,b=>by
  simp[wD];rcases List.mem_cons.1 h with rfl|h
  ·grind
  ·exact .inr (qO h b)
theorem Bp ρ o:hR (fo ρ o)=hR o:=by cases o<;>rfl
theorem DL: ∀{n i},i<n->i∈upto n
 |0,_,h=>by omega
 |n+1,i,h=>by
  simp[upto];rcases Nat.lt_or_ge i n with a|a
  ·exact .inl (DL a)
  grind
theorem se{ids}: ∀{l},vh ids l=true->∀i,i∈l->kb i ids 0=some i
 |[],_,_,h=>by grind
 |j::l,h,i,a=>by
  simp[vh] at h;rcases List.mem_cons.1 a with rfl|a
  ·grind [Nat.eq_of_beq_eq_true]
  ·exact se h.2 i a
def Ctx.by(C:Ctx)(ids:List _):={C with st:=gx (fun i=>kb i ids 0) (gu C.st ids),ι:=fun k=>C.ι (ids.getD k 0)}
theorem mV{C:Ctx}{ids k i}(h:ids[k]? =some i):ay (C.by ids).st k=fo (fun i=>kb i ids 0) (ay C.st i)/\(C.by ids).ι k=C.ι i:=by grind [Ctx.by,pg,tR]
theorem n6{C:Ctx}{ids}:(C.by ids).st.length=ids.length:=by simp[Ctx.by,jc,kn]
theorem mK{C ids i j}(h:kb i ids 0=some j):b7 C (C.by ids) i j:=by
 obtain⟨k,v,l⟩:=rQ h;obtain rfl:j=k:=by omega
 obtain⟨d,e⟩:=mV (C:=C) l;refine⟨by rw[n6];exact(List.getElem?_eq_some_iff.1 l).1,fun T xs b=>?_,fun T a b=>?_,fun K V y b=>?_,fun r b=>?_,fun m n o b=>?_,fun t b=>?_,fun s p b=>?_,fun K V o x u b=>?_,fun T E z w b=>?_⟩
 ·rw[d,Bp] at b;exact⟨xs,b,e,Nat.le_refl _⟩
 ·rw[d] at b
  cases c:ay C.st i<;>rw[c] at b<;>simp[fo] at b
  obtain⟨rfl,_⟩:=b;exact⟨_,rfl,e⟩
 ·rw[d] at b
  cases c:ay C.st i<;>rw[c] at b<;>simp[fo] at b
  obtain⟨rfl,rfl,rfl⟩:=b;exact⟨_,rfl,e,fun g f q=>⟨g,f,q,eb.refl _ _⟩⟩
 ·rw[d] at b
  cases c:ay C.st i<;>rw[c] at b<;>simp[fo] at b
  exact⟨_,rfl,e⟩
 ·rw[d] at b
  cases c:ay C.st i<;>rw[c] at b<;>simp[fo] at b
  obtain⟨_,rfl,_⟩:=b;exact⟨_,_,rfl,e⟩
 ·rw[d] at b
  cases c:ay C.st i<;>rw[c] at b<;>simp[fo] at b
  exact⟨_,rfl,e⟩
 ·rw[d] at b
  cases c:ay C.st i<;>rw[c] at b<;>simp[fo] at b
  obtain⟨rfl,_⟩:=b;exact⟨_,rfl,e⟩
 ·rw[d] at b
  cases c:ay C.st i<;>rw[c] at b<;>simp[fo] at b
  obtain⟨rfl,rfl,rfl,rfl,_⟩:=b;exact⟨_,rfl,e⟩
 ·rw[d] at b
  cases c:ay C.st i<;>rw[c] at b<;>simp[fo] at b
  obtain⟨rfl,rfl,rfl,_⟩:=b;exact⟨_,_,rfl,e,rfl,fun _ _ _ h=>h⟩
theorem vB{C}(o:Inv C){base n ids}(d:qc base C.st n ids=true):Inv (C.by ids)/\Ext base C (C.by ids)/\∀i,i∈n->∃j,kb i ids 0=some j:=by
 simp only[qc,ao0] at d;obtain⟨⟨⟨⟨J,H⟩,E⟩,L⟩,F⟩:=d;have I:=lE J;have s:bP C (C.by ids):=⟨rfl,fun _ h=>h,fun _ _=>rfl⟩
 have g: ∀k,k<ids.length->∃i,ids[k]? =some i/\i<C.st.length:=fun k s=>⟨ids[k],by simp[s],ny H _ (List.getElem_mem s)⟩
 refine⟨⟨o.lay,fun k a=>?_,fun k l a A z d w=>?_,o.xs,fun k a d=>?_,o.nU,o.lU s⟩,⟨s,Nat.le_refl _,rfl,rfl,rfl,fun _ _ _=>rfl,fun b u=> .inl u,fun b u=>?_,fun i f=>mK (se E i (DL f)),fun _=> .inl ⟨rfl,rfl⟩,rfl⟩,fun i f=>oN 0 (k8 L i f)⟩
 ·rw[n6] at a
  obtain⟨i,f,c⟩:=g k a;obtain⟨r,p⟩:=mV (C:=C) f;rw[r,p];have v:i∈ids:=List.mem_iff_getElem?.2 ⟨k,f⟩;refine(o.obj i c).move s o.lay _ (fun j y q=>?_) (o.fb i c) ⟨fun b x u=>⟨(o.dr ⟨i,c,x,u.symm⟩).2,rfl⟩,fun _ _=>⟨Iff.rfl,fun _=>rfl⟩,dQ.refl _,Nat.le_refl _,fun _ _=>rfl⟩;obtain⟨m,D⟩:=oN (ids:=ids) 0 (k8 F j (qO v y));exact⟨m,D,mK D⟩
 ·rw[n6] at a A
  obtain⟨i,f,c⟩:=g k a;obtain⟨j,y,q⟩:=g l A;obtain⟨r,p⟩:=mV (C:=C) f;obtain⟨K,B⟩:=mV (C:=C) y;rw[r,p,dy] at d;rw[K,B,dy] at w;rw[p,B];refine o.uf i j c q (fun e=>z ?_) d w
  grind [List.getElem?_eq_some_iff,List.getElem_inj]
 ·rw[n6] at a
  obtain⟨i,f,c⟩:=g k a;obtain⟨r,p⟩:=mV (C:=C) f;rw[r,p,dy] at d;rw[p];exact o.fb i c d
 ·obtain⟨k,a,x,t⟩:=u
  rw[n6] at a;obtain⟨i,f,c⟩:=g k a;obtain⟨r,p⟩:=mV (C:=C) f;rw[r,p,dy] at x;rw[p] at t;exact .inl ⟨i,c,x,t⟩
theorem kf b: ∀l n,(il b l n).length=l.length
 |[],_=>rfl
 |a::l,n=>by simp[il,kf _ l]
theorem rG b: ∀l n i,nth (il b l n) i=nth l i\/nth (il b l n) i= .cC
 |[],_,_=> .inl rfl
 |a::l,n,0=>by
  grind [il,nth]
 |a::l,n,i+1=>by exact rG _ l _ i
theorem C8{C c a b}(h:gM C a b):gM C (il c a 0) b:=by
 refine⟨by rw[kf];exact h.1,fun i e=>?_⟩;rw[kf] at e;rcases rG _ _ 0 i with d|d
 ·rw[d];exact h.2 i e
 grind [mC]
theorem BN{C}(a:Inv C) T:Inv (C.add (.row T []) ⟨C.w.heap.size,0,true⟩ C.w)/\Ext C.st.length C (C.add (.row T []) ⟨C.w.heap.size,0,true⟩ C.w):=
 fU a    rfl (Nat.le_refl _) ⟨rfl,rfl,rfl⟩ (by simp) ⟨trivial,by simp⟩
theorem sD{C:Ctx} T:lA (C.add (.row T []) ⟨C.w.heap.size,0,true⟩ C.w) C.st.length 0 0 (.slice none 0 0):=by
 refine⟨fun b xs a=>?_,fun _ _ _ _ a=>by grind [bz]⟩
 grind [bz]
theorem jG: ∀live {C s a},Inv C->da C s a->∃C',C'.w=C.w/\Inv C'/\da C' (jn live s) a/\Ext C.st.length C C'
 |[],C,s,a,hI,hs=>⟨C,rfl,hI,hs,Ext.refl C (Nat.le_refl _)⟩
 |(r,none)::l,C,s,a,hI,hs=>by simp only[jn];exact jG l hI hs
 | (r,some T)::l,C,s,a,hI,hs=>by
  simp only[jn];split
  ·rename_i hr
   have hsame:a.tmps.setIfInBounds r (a.tmps.getD r undef)=a.tmps:=by
    apply Array.ext_getElem?;intro k;by_cases hk:r=k
    ·subst hk
     by_cases hlt':r<a.tmps.size
     ·simp[hlt']
     ·simp[hlt']
    ·rw[Array.getElem?_setIfInBounds_ne hk]
   split
   ·have hv:Rel C (.ah (T - R0) []) (a.tmps.getD r undef):=by
     rcases Nat.lt_or_ge r s.bC.length with hlt|hge
     ·have hv:=hs.bC.2 r hlt
      rw[hr] at hv;rw[aZ hv];refine dV rfl rfl ?_ hI;simp only[M];exact⟨trivial,none,0,rfl,Nat.le_refl _,fun h=>absurd rfl h⟩
     ·rw[fS _ _ hge] at hr;cases hr
    have hput:=hs.bC.put hv (d:=r);rw[hsame] at hput;obtain⟨C',g1,g2,g3,g4⟩:=jG l (s:={bC:=bt s.bC r (.ah (T - R0) []),st:=s.st}) (a:=a) hI ⟨hs.st,hput⟩;exact⟨C',g1,g2,g3,g4⟩
   obtain⟨h1,h2⟩:=BN hI T;have hst:=hs.step hI h2;rcases Nat.lt_or_ge r s.bC.length with hlt|hge
   ·have hv:=hs.bC.2 r hlt
    rw[hr] at hv;have hv':=aZ hv;have hrel:Rel (C.add (.row T []) ⟨C.w.heap.size,0,true⟩ C.w) (.an C.st.length 0 0) (a.tmps.getD r undef):=by
     rw[hv'];refine dV rfl rfl ?_ h1;simp only[M];exact⟨by simp[Ctx.add],_,rfl,rfl,sD T⟩
    have hput:=hst.bC.put hrel (d:=r);rw[hsame] at hput;obtain⟨C',g1,g2,g3,g4⟩:=jG l (s:={bC:=bt s.bC r (.an s.st.length 0 0),st:=s.st++[.row T []]}) (a:=a) h1
     ⟨by simp[Ctx.add,hs.st],by rw[←hs.st];exact hput⟩
    exact⟨C',g1,g2,g3,h2.trans g4 (by simp[Ctx.add])⟩
   ·rw[fS _ _ hge] at hr;cases hr
  ·exact jG l hI hs
theorem KK{C s a} P i(hI:Inv C)(hs:da C s a): ∃C',C'.w=C.w/\Inv C'/\da C' (FF P i s) a/\Ext C.st.length C C':=by
 unfold FF;split
 ·rename_i Tb hst
  split
  ·rename_i Te _
   obtain⟨h1,h2⟩:=BN hI Te;rw[←hs.st] at hst;have hi:i<C.st.length:=by
    rcases Nat.lt_or_ge i C.st.length with h|h
    ·exact h
    ·rw[eR _ _ h] at hst;cases hst
   generalize hC1:C.add (.row Te []) ⟨C.w.heap.size,0,true⟩ C.w=C1 at*
   have hw1:C1.w=C.w:=by rw[←hC1];rfl
   have hl1:C1.st.length=C.st.length+1:=by rw[←hC1];simp[Ctx.add]
   have hn1:ay C1.st i= .box Tb (.lit (.slice none 0 0)):=by rw[←hC1,(ct hi).1];exact hst
   have hι1:C1.ι i=C.ι i:=by rw[←hC1];exact(ct hi).2
   have hslc:lA C1 C.st.length 0 0 (.slice none 0 0):=by rw[←hC1];exact sD Te
   have hob:=h1.obj i (by omega);rw[hn1] at hob;obtain⟨g1,g2,c,e,g3,g4,g5⟩:=hob;have hr:b7 C1 (C1.ea i (.box Tb (.an C.st.length 0 0)) C1.w) i i:=nu (by omega) hn1 Tb _ rfl rfl;have hk:bP C1 (C1.ea i (.box Tb (.an C.st.length 0 0)) C1.w):=⟨rfl,fun _ h=>h,fun _ _=>rfl⟩
   have hupd:=iB h1 (i:=i) (by omega) (o:= .box Tb (.an C.st.length 0 0)) (w:=C1.w) (by rw[hn1];rfl) rfl ⟨rfl,rfl,rfl⟩ (fun _ _=>rfl) hr (by
    refine⟨g1,rfl,c,e,g3,by simpa[wid] using g4,?_⟩;simp only[M] at g5⊢;refine⟨by simp only[Ctx.ea,bc];omega,_,g5.1,rfl,?_⟩;refine lA.move hk (eh h1 (by omega) (by simp only[Ctx.ea,bc];omega) (bH _ _ _ _ (by omega)) rfl (fun _ _ _=>⟨rfl,rfl,rfl⟩)) hslc)
   refine⟨C1.ea i (.box Tb (.an C.st.length 0 0)) C1.w,hw1,hupd.1,?_,h2.trans hupd.2 (by omega)⟩;have:=(hs.step hI h2).step h1 hupd.2
   refine⟨?_,this.bC⟩;simp only[Ctx.ea,←hC1,Ctx.add,hs.st];have: ∀(l m:List Obj) (i:Nat) (x:Obj),i<l.length->dd (l++m) i x=dd l i x++m:=by
    intro l;induction l with
    |nil=>intro m i x h;simp at h
    |cons a l ih=>
     intro m i x h;cases i with
     |zero=>rfl
     |succ i=>simp only[List.cons_append,dd];rw[ih m i x (by simpa using h)]
   exact this _ _ _ _ (by rw[←hs.st];exact hi)
  ·exact⟨C,rfl,hI,hs,Ext.refl C (Nat.le_refl _)⟩
 ·exact⟨C,rfl,hI,hs,Ext.refl C (Nat.le_refl _)⟩
theorem o5 P: ∀is {C s a},Inv C->da C s a->∃C',C'.w=C.w/\Inv C'/\da C' (rq P is s) a/\Ext C.st.length C C'
 |[],C,s,a,hI,hs=>⟨C,rfl,hI,hs,Ext.refl C (Nat.le_refl _)⟩
 |i::is,C,s,a,hI,hs=>by
  obtain⟨C1,g1,g2,g3,g4⟩:=KK P i hI hs;obtain⟨C2,g5,g6,g7,g8⟩:=o5 P _ g2 g3;refine⟨_,g5.trans g1,g6,g7,g4.trans g8 ?_⟩;rcases Nat.eq_zero_or_pos C.st.length with h|h
  ·omega
  ·have:=(g4.refs (C.st.length - 1) (by omega)).lt;omega
theorem Eo: ∀l j k,nth l j= .lit (.slice none 0 0)->eC (bt l j (.an k 0 0))=eC l
 |[],_,_,h=>by rfl
 |a::l,0,k,h=>by
  subst h;rfl
 |a::l,j+1,k,h=>by
  simp[bt,eC,Eo l j k h]
theorem xD: ∀l j k,dU l=true->dU (bt l j (.an k 0 0))=true
 |[],_,_,_=>rfl
 |a::l,0,k,h=>by
  simp[dU,bt] at h⊢;exact⟨rfl,h.2⟩
 |a::l,j+1,k,h=>by
  simp[dU,bt] at h⊢;exact⟨h.1,xD l j k h.2⟩
theorem Hx{C k}(d:k<C.st.length)(c:lA C k 0 0 (.slice none 0 0)): ∀l j s o,nth l j= .lit (.slice none 0 0)->ML C l s o->ML C (bt l j (.an k 0 0)) s o
 |[],_,_,_,h,_=>by grind [nth]
 |a::l,0,s,o,h,b=>by
  grind [nth,bt,ML,M,wid]
 |a::l,j+1,s,o,h,b=>by
  exact⟨b.1,Hx d c l j s _ h b.2⟩
theorem Cy: ∀l m i x,i<l.length->dd (l++m) i x=dd l i x++m
 |[],_,_,_,h=>by grind
 |a::l,m,0,x,_=>rfl
 |a::l,m,i+1,x,h=>by
  simp[dd];rw[Cy l m i x (by grind)]
theorem Sz{C}(hI:Inv C) i j T: ∃C',C'.w=C.w/\C'.P=C.P/\Inv C'/\C'.st=VH i j T C.st/\Ext C.st.length C C':=by
 unfold VH;split
 ·rename_i Tb fs hst
  split
  ·rename_i hf
   obtain⟨h1,h2⟩:=BN hI T;have hi:i<C.st.length:=by
    grind [Nat.lt_or_ge,eR]
   generalize hC1:C.add (.row T []) ⟨C.w.heap.size,0,true⟩ C.w=C1 at*
   have hw1:C1.w=C.w:=by rw[←hC1];rfl
   have hP1:C1.P=C.P:=by rw[←hC1];rfl
   have hl1:C1.st.length=C.st.length+1:=by rw[←hC1];simp[Ctx.add]
   have hn1:ay C1.st i= .box Tb (.agg fs):=by rw[←hC1,(ct hi).1];exact hst
   have hslc:lA C1 C.st.length 0 0 (.slice none 0 0):=by rw[←hC1];exact sD T
   have hob:=h1.obj i (by omega);rw[hn1] at hob;obtain⟨g1,g2,c,e,g3,g4,g5⟩:=hob;have hr:b7 C1 (C1.ea i (.box Tb (.agg (bt fs j (.an C.st.length 0 0)))) C1.w) i i:=nu (by omega) hn1 Tb _ rfl rfl;have hk:bP C1 (C1.ea i (.box Tb (.agg (bt fs j (.an C.st.length 0 0)))) C1.w):=⟨rfl,fun _ h=>h,fun _ _=>rfl⟩
   have hlen:(C1.ea i (.box Tb (.agg (bt fs j (.an C.st.length 0 0)))) C1.w).st.length=C1.st.length:=bc _ _ _;have hrefs: ∀q,q<C1.st.length->b7 C1 _ q q:=fun q hq=>by
    by_cases hqi:i=q
    ·subst hqi;exact hr
    ·exact eh h1 hq (by omega) (bH _ _ _ _ hqi) rfl (fun _ _ _=>⟨rfl,rfl,rfl⟩)
   have hslc':=lA.move hk (hrefs C.st.length (by omega)) hslc;have hupd:=iB h1 (i:=i) (by omega) (o:= .box Tb (.agg (bt fs j (.an C.st.length 0 0)))) (w:=C1.w) (by rw[hn1];rfl) rfl ⟨rfl,rfl,rfl⟩ (fun _ _=>rfl) hr (by
    refine⟨g1,by simp only[cR] at g2⊢;exact xD _ _ _ g2,c,e,g3,by simpa[wid,Eo _ _ _ hf] using g4,?_⟩;simp only[M] at g5⊢;refine Hx (by rw[hlen];omega) hslc' fs j _ _ hf ?_;have:=BM hk h1.lay some fs _ _ 0 0 (fun q hq hql=>⟨q,rfl,hrefs q hql⟩) (fun _ _=>rfl) g5
    rwa [gk] at this)
   refine⟨C1.ea i (.box Tb (.agg (bt fs j (.an C.st.length 0 0)))) C1.w,hw1,hP1,hupd.1,?_,h2.trans hupd.2 (by omega)⟩;simp only[Ctx.ea];rw[←hC1];exact Cy _ _ _ _ hi
  ·exact⟨C,rfl,rfl,hI,rfl,Ext.refl C (Nat.le_refl _)⟩
 ·exact⟨C,rfl,rfl,hI,rfl,Ext.refl C (Nat.le_refl _)⟩
theorem rl: ∀l {C},Inv C->∃C',C'.w=C.w/\C'.P=C.P/\Inv C'/\C'.st=x6 l C.st/\Ext C.st.length C C'
 |[],C,hI=>⟨C,rfl,rfl,hI,rfl,Ext.refl C (Nat.le_refl _)⟩
 |(i,j,T)::l,C,hI=>by
  obtain⟨C1,a1,a2,a3,a4,a5⟩:=Sz hI i j T;obtain⟨C2,b1,b2,b3,b4,b5⟩:=rl l a3;refine⟨_,b1.trans a1,b2.trans a2,b3,by rw[b4,a4];rfl,a5.trans b5 ?_⟩;rcases Nat.eq_zero_or_pos C.st.length with h|h
  ·omega
  ·have:=(a5.refs (C.st.length - 1) (by omega)).lt;omega
theorem EG l{C s a}(hI:Inv C)(hs:da C s a): ∃C',C'.w=C.w/\Inv C'/\da C' (BU l s) a/\Ext C.st.length C C':=by
 have key: ∃C',C'.w=C.w/\Inv C'/\da C' {s with st:=x6 l s.st} a/\Ext C.st.length C C':=by
  obtain⟨C',h1,_,h3,h4,h5⟩:=rl l hI;refine⟨_,h1,h3,?_,h5⟩;have:=hs.step hI h5
  exact⟨by rw[h4,hs.st],this.bC⟩
 unfold BU
 grind [Ext.refl]
theorem wy{C s a} P live{base}(hI:Inv C)(hs:da C s a)(hb:base<=s.st.length)(hok:jL P live base s=true):
  ∃C',C'.w=C.w/\Inv C'/\da C' (canon P live base s) a/\Ext base C C'/\base<=(canon P live base s).st.length:=by
 obtain⟨C1,g1,g2,g3,g4⟩:=jG live hI (s:={s with bC:=il live s.bC 0}) ⟨hs.st,C8 hs.bC⟩;obtain⟨C3,g9,ga,gb,gc⟩:=o5 P (upto (jn live {s with bC:=il live s.bC 0}).st.length) g2 g3;obtain⟨C2,gd,g6,g7,ge⟩:=EG (AF live) ga gb;have g5:C2.w=C1.w:=gd.trans g9;have g8:Ext C1.st.length C1 C2:=gc.trans ge (by
  rcases Nat.eq_zero_or_pos C1.st.length with h|h
  ·omega
  ·have:=(gc.refs (C1.st.length - 1) (by omega)).lt;omega)
 have hpre:da C2 (iu P live s) a:=g7;unfold jL at hok;rw[←hpre.st] at hok;obtain⟨h1,h2,h3⟩:=vB g6 hok;have hl1:C.st.length<=C1.st.length:=by
  rcases Nat.eq_zero_or_pos C.st.length with h|h
  ·omega
  ·have:=(g4.refs (C.st.length - 1) (by omega)).lt;omega
 have hsl:s.st.length=C.st.length:=by rw[hs.st]
 refine⟨C2.by (ji base C2.st (cU (iu P live s).bC)),g5.trans g1,h1,?_,(g4.mono (by omega)).trans ((g8.mono (by omega)).trans h2 (Nat.le_refl _)) (Nat.le_refl _),?_⟩
 ·refine⟨?_,?_⟩
  ·simp only[canon,u7,Ctx.by,hpre.st]
  ·simp only[canon,u7]
   rw[←hpre.st];exact hpre.bC.move h2.keeps g6.lay _ (fun i hi _=>by obtain⟨j,hj⟩:=h3 i hi;exact⟨j,hj,mK hj⟩)
 ·have hrefs:=h2.refs
  have e:(canon P live base s).st.length=(C2.by (ji base C2.st (cU (iu P live s).bC))).st.length:=by
   simp only[canon,u7,Ctx.by,hpre.st]
  rw[e];rcases Nat.eq_zero_or_pos base with h|h
  ·omega
  ·have:=(hrefs (base - 1) (by omega)).lt;omega
end Go.Dn
