import Derived.Test.YtioeffnadipbaaaGreatDoorDnL
namespace Go.Dn
open Go
mutual
theorem tM{P:Program}: ∀(a:AV) (T:TypeId),bu P a T->refs a=[]
 | .lit _,_,_| .ad _ _,_,_| .jA _ _,_,_| .eO _ _ _ _,_,_=>by simp[refs]
 | .agg l,T,h=>by simp only[bu] at h;obtain⟨fs,_,h2⟩:=h;simp only[refs];exact xD l _ h2
 | .jz U a,T,h=>by simp only[bu] at h;simp only[refs];exact tM a U h.2
 | .cK,_,h| .aK _,_,h| .ax _ _ _,_,h| .ptr _ _ _ _,_,h| .mp _,_,h| .bJ _,_,h| .lC _ _,_,h| .bp _ _,_,h=>by simp[bu] at h
theorem xD{P:Program}: ∀(l:List AV) (fs:List Field),ea P l fs->df l=[]
 |[],_,_=>by simp[df]
 |_::_,[],h=>by simp[ea] at h
 |a::l,f::fs,h=>by simp only[ea] at h;simp[df,tM a _ h.1,xD l fs h.2]
end
theorem Rel.pure{C C'}(hk:bK C C')(hl:eU C.P){a T}(ht:bu C.P a T){v}(h:Rel C a v):Rel C' a v:=
 h.gr hk hl fun i hi=>by grind [tM]
theorem cE.gr{C C'}(hk:bK C C')(hl:eU C.P){V}: ∀{es ents},cE C V es ents->cE C' V es ents
 |[],[],_=>trivial
 |[],_::_,h=>by grind [cE]
 |_::_,[],h=>by grind [cE]
 |(k,a)::es,e::ents,h=>by
  exact⟨h.1,by rw[hk.P];exact h.2.1,h.2.2.1.pure hk hl h.2.1,h.2.2.2.gr hk hl⟩
mutual
theorem zG(ρ:Nat->Option Nat): ∀a:AV,cR a=true->(∀i,i∈refs a->∃j,ρ i=some j)->cR (nb ρ a)=true
 | .agg l,h,hr=>by simp only[nb,cR] at h⊢;exact xL ρ l h (by simpa[refs] using hr)
 | .lit _,h,_=>by simpa[nb,cR] using h
 | .ad _ _,_,_| .jA _ _,_,_| .bp _ _,_,_| .jz _ _,_,_| .eO _ _ _ _,_,_=>by simp[nb,cR]
 | .ax i _ _,_,hr| .ptr i _ _ _,_,hr| .mp i,_,hr| .bJ i,_,hr| .lC i _,_,hr=>by
  obtain⟨j,hj⟩:=hr i (by simp[refs]);simp[nb,hj,cR]
 | .cK,h,_| .aK _,h,_=>by simp[cR] at h
theorem xL(ρ:Nat->Option Nat): ∀l:List AV,dL l=true->(∀i,i∈df l->∃j,ρ i=some j)->dL (gG ρ l)=true
 |[],_,_=>by simp[gG,dL]
 |a::l,h,hr=>by
  simp only[dL,an3] at h;simp only[gG,dL,an3];exact⟨zG ρ a h.1 (fun i hi=>hr i (by simp[df,hi])),xL ρ l h.2 (fun i hi=>hr i (by simp[df,hi]))⟩
end
theorem dG g ρ o:cv g (fp ρ o)=cv g o:=by cases o<;>rfl
theorem mx.gr{C C' B E k m l v}(hs: ∀b,C.cls b=B->C'.cls b=C.cls b/\C'.s5 b=C.s5 b/\C'.w.heap[b]? =C.w.heap[b]?)(h:mx C B E k l m v):mx C' B E k l m v:=by
 obtain⟨h1,h2|⟨b,cap,c,h2,h3,h4,h5,h6,h7,h8,h9⟩⟩:=h
 ·exact⟨h1, .inl h2⟩
 ·exact⟨h1,by grind⟩
def A6:Obj->Bool
 | .ext _| .rows _ _ _ _=>true
 |_=>false
structure Still(C C':Ctx)(g:G)(o:Obj):Prop where
 WH: ∀b,cv g o=true->C.cls b=g.block-> ¬ C'.X b/\C'.w.heap[b]? =C.w.heap[b]?
 cls:A6 o=true->∀b,(C'.cls b=g.block↔C.cls b=g.block)/\(C.cls b=g.block->C'.s5 b=C.s5 b)
 os:dT C.w C'.w
 size:C.w.heap.size<=C'.w.heap.size
 mv: ∀t,o= .ext t->C'.mv=C.mv
theorem kl.move{C C'}(hk:bK C C')(hl:eU C.P) ρ{g o}
  (hr: ∀i,i∈zE o->i<C.st.length->∃j,ρ i=some j/\bW C C' i j) (hc:cv g o=true->C.cls g.block=g.block) (hS:Still C C' g o)
  (h:kl C g o):kl C' g (fp ρ o):=by
 have hX:cv g o=true-> ¬ C'.X g.block:=fun e=>(hS.WH _ e (hc e)).1
 have hh:cv g o=true->C'.w.heap[g.block]? =C.w.heap[g.block]? :=fun e=>(hS.WH _ e (hc e)).2
 have cell: ∀b,C'.w.heap[b]? =C.w.heap[b]? ->∀j,cellAt C'.w b j=cellAt C.w b j:=fun b hb j=>by simp only[cellAt,World.cell?,hb]
 cases o with
 |dead=>trivial
 |box T a=>
  obtain⟨h1,h2,c,e,h3,h4,h5⟩:=h;have hb:=hh rfl;refine⟨hX rfl,zG ρ a h2 (fun i hi=>?_),c,e,by rw[hb];exact h3,by rw[pX];exact h4,?_⟩
  ·obtain⟨j,hj,_⟩:=hr i hi (Qz h5 i hi);exact⟨j,hj⟩
  ·exact qG hk hl ρ a _ _ _ _ hr (fun j _=>cell _ hb _) h5
 | row T xs=>
  obtain⟨h1,h2|⟨h2,h3,c,h4,h5,h6,h7,h8⟩⟩:=h
  ·exact⟨by rw[hk.P];exact h1, .inl h2⟩
  ·have ho:cv g (.row T xs)=true:=by simp[cv,h2]
   have hb:=hh ho;refine⟨by rw[hk.P];exact h1, .inr ⟨h2,hX ho,c,by rw[hb];exact h4,h5,h6,by rw[hk.P];exact h7,?_⟩⟩;rw[hk.P];exact gg hk hl xs T _ _ _ _ h1 (fun j _=>cell _ hb _) h8
 | lD T xs=>
  obtain⟨h1,h2|⟨h2,h3,h4⟩⟩:=h
  ·exact⟨by rw[hk.P];exact h1, .inl h2⟩
  ·refine⟨by rw[hk.P];exact h1, .inr ⟨h2,hk.X _ h3,?_⟩⟩
   rw[hk.P];exact gg hk hl xs T _ _ _ _ h1 (fun j _=>cell _ (hk.heap _ h3) _) h4
 |map K V es=>
  obtain⟨h1,entries,clock,h2,h3,h4⟩:=h;exact⟨hX rfl,entries,clock,by rw[hh rfl];exact h2,h3.gr hk hl,by rw[hk.P];exact h4⟩
 |loop r=>
  obtain⟨h1,rec,h2,h3⟩:=h;refine⟨hX rfl,rec,by rw[hh rfl];exact h2,⟨h3.state,h3.pending,h3.params,h3.assign,h3.body,h3.bz.move hk hl ρ hr⟩⟩
 |iter i n ks=>
  obtain⟨h1,hi,m,since,seen,stepped,h2,h3⟩:=h;obtain⟨j,hj,hrf⟩:=hr i (by simp[zE]) hi;simp only[fp,hj];exact⟨hX rfl,hrf.lt,m,since,seen,stepped,by rw[hh rfl];exact h2,h3.move hrf⟩
 |dy s p=>exact⟨hX rfl,by rw[hh rfl];exact h.2⟩
 |rows T E ls pd=>
  obtain⟨h1,h2,h3,h4,c,h5,h6,h7⟩:=h;refine⟨hX rfl,by rw[hk.P];exact h2,by rw[hk.P];exact h3,by rw[hk.P];exact h4,c,by rw[hh rfl];exact h5,h6,fun k hk' hp=>?_⟩;obtain⟨v,h8,h9⟩:=h7 k hk' hp;exact⟨v,h8,h9.gr fun b hb=>⟨((hS.cls rfl b).1.2 hb).trans hb.symm,(hS.cls rfl b).2 hb,(hS.WH b rfl hb).2⟩⟩
 |fit K V ks vs met=>
  obtain⟨h1,m,since,seen,stepped,h2,h3⟩:=h;refine⟨hX rfl,m,since,seen,stepped,by rw[hh rfl];exact h2,?_⟩;rcases h3 with h3|⟨b,ents,clock,g1,g2,g3,g4,g5,g6,g7,g8⟩
  ·exact .inl h3
  ·exact .inr ⟨b,ents,clock,g1,hk.X b g2,by rw[hk.heap b g2];exact g3,by rw[hk.P];exact g4,g5,by rw[hk.P];exact g6,pJ hk hl vs V _ g6 g7,g8⟩
 |ext t=>
  obtain⟨h1,h2,h3,h4⟩:=h;refine⟨hX rfl,by have:=hS.size;omega,?_,by rw[hk.P,hS.mv t rfl];exact h4⟩;rw[hS.mv t rfl,show(fun b=>C'.cls b=g.block)=(fun b=>C.cls b=g.block) from funext fun b=>propext (hS.cls rfl b).1];exact h4.still t _ C.X C'.X C.w C'.w h3 hk.X (fun b hb=>(hS.WH b rfl hb).1) (fun b hb=>hb.elim (fun h=>(hS.WH b rfl h).2) (hk.heap b)) hS.os hS.size
theorem JZ o:fp some o=o:=by
 cases o<;>simp[fp]
 ·rw[jZ]
 ·rw[fQ]
theorem kl.gr{C C'}(hk:bK C C')(hl:eU C.P){g o}(hr: ∀i,i<C.st.length->i∈zE o->bW C C' i i)(hc:cv g o=true->C.cls g.block=g.block)(hS:Still C C' g o)
  (h:kl C g o):kl C' g o:=by
 have:=h.move hk hl some (by grind) hc hS
 grind [JZ]
theorem a9: ∀l i x,(dj l i x).length=l.length
 |[],_,_=>rfl
 |_::_,0,_=>rfl
 |_::l,i+1,x=>by simp[dj,a9 l i x]
theorem bn: ∀l i x,i<l.length->au (dj l i x) i=x
 |[],_,_,h=>by grind
 |_::_,0,_,_=>rfl
 |_::l,i+1,x,h=>by exact bn l i x (by grind)
theorem bw: ∀l i j x,i≠j->au (dj l i x) j=au l j
 |[],_,_,_,_=>rfl
 |_::_,0,j,_,h=>by cases j with|zero=>grind|succ j=>rfl
 |_::l,i+1,j,x,h=>by
  cases j with
  |zero=>rfl
  |succ j=>exact bw l i j x (by omega)
theorem dV: ∀l m i,i<l.length->au (l++m) i=au l i
 |[],_,_,h=>by grind
 |_::_,_,0,_=>rfl
 |_::l,m,i+1,h=>by exact dV l m i (by grind)
theorem gF: ∀l m i,au (l++m) (l.length+i)=au m i
 |[],_,_=>by simp
 |_::l,m,i=>by
  simp[show l.length+1+i=l.length+i+1 by omega];exact gF l m i
theorem eC: ∀l i,l.length<=i->au l i= .dead
 |[],_,_=>rfl
 |_::l,0,h=>by grind
 |_::l,i+1,h=>by exact eC l i (by grind)
def yL(C:Ctx) g:=fun i=>if i=C.st.length then g else C.ι i
def Ctx.add(C:Ctx) o g w:={C with st:=C.st++[o],ι:=yL C g,w}
theorem cw{C:Ctx}{o g w i}(h:i<C.st.length):au (C.add o g w).st i=au C.st i/\(C.add o g w).ι i=C.ι i:=by
 refine⟨dV _ _ _ h,?_⟩;simp[Ctx.add,yL];grind
theorem br{C:Ctx}{o g w}:au (C.add o g w).st C.st.length=o/\(C.add o g w).ι C.st.length=g:=by
 refine⟨?_,?_⟩
 ·have:=gF C.st [o] 0
  grind [Ctx.add,au]
 ·simp[Ctx.add,yL]
theorem dW{C C'}(hI:Inv C){i}(hi:i<C.st.length)(h:i<C'.st.length)(h1:au C'.st i=au C.st i)(h2:C'.ι i=C.ι i)
  (h3:cv (C.ι i) (au C.st i)=true->∀b,C.cls b=(C.ι i).block->C'.cls b=C.cls b/\C'.s5 b=C.s5 b/\C'.w.heap[b]? =C.w.heap[b]?):bW C C' i i:=by
 refine⟨h,by grind,by grind,fun K V es hx=>?_,by grind,by grind,by grind,by grind,
  by grind,fun T E ls pd hx=>?_⟩<;>rw[h1] at hx
 ·refine⟨es,hx,h2,fun ents clock hh=>⟨ents,clock,?_,eb.refl _ _⟩⟩
  have ho:cv (C.ι i) (au C.st i)=true:=by rw[hx];rfl
  rw[(h3 ho _ (hI.eZ i hi ho)).2.2];exact hh
 ·exact⟨ls,pd,hx,h2,rfl,fun k m v hv=>hv.gr (h3 (by rw[hx];rfl))⟩
theorem tO{C C' i}(h:i<C'.st.length)(h1:au C'.st i= .dead):bW C C' i i:=
 ⟨h,fun T xs hx=>by grind [ib],by grind,by grind,by grind,by grind,by grind,by grind,by grind,by grind⟩
theorem gh{C}(a:Inv C){o g w}(t:g.block=C.w.heap.size)(r:C.w.heap.size<=w.heap.size)(n:dT C.w w)(f: ∀b,b<C.w.heap.size->w.heap[b]? =C.w.heap[b]?)
  (A:kl (C.add o g w) g o):Inv (C.add o g w)/\Ext C.st.length C (C.add o g w):=by
 have x:bK C (C.add o g w):=⟨rfl,fun _ h=>h,fun b c=>f b (a.xs b c)⟩
 have z:(C.add o g w).st.length=C.st.length+1:=by simp[Ctx.add]
 have l: ∀i,i<C.st.length->bW C (C.add o g w) i i:=fun i q=>
  dW a q (by omega) (cw q).1 (cw q).2 (fun h b c=>⟨rfl,rfl,f _ (a.dA ⟨i,q,h,c.symm⟩).1⟩)
 refine⟨⟨a.lay,fun i q=>?_,fun i j q y v d p=>?_,fun b c=>by have:=a.xs b c;show b<w.heap.size;omega,fun i q d=>?_,fun b c=>?_,a.lR x⟩,⟨x,r,n.os,n.tape,n.output,fun b c _=>f b c,fun b c=> .inl c,fun b c=>?_,l,fun _=> .inl ⟨rfl,rfl⟩,rfl⟩⟩
 ·rcases Nat.lt_or_ge i C.st.length with h|h
  ·rw[(cw h).1,(cw h).2]
   exact(a.obj i h).gr x a.lay (fun j y _=>l j y) (a.eZ i h) ⟨fun b k c=>⟨(a.dA ⟨i,h,k,c.symm⟩).2,f _ (a.dA ⟨i,h,k,c.symm⟩).1⟩,fun _ _=>⟨Iff.rfl,fun _=>rfl⟩,n,r,fun _ _=>rfl⟩
  ·obtain rfl:i=C.st.length:=by omega
   rw[br.1,br.2];exact A
 ·rcases Nat.lt_or_ge i C.st.length with h|h<;>rcases Nat.lt_or_ge j C.st.length with k|k
  ·rw[(cw h).1,(cw h).2] at d
   rw[(cw k).1,(cw k).2] at p;rw[(cw h).2,(cw k).2];exact a.u0 i j h k v d p
  ·obtain rfl:j=C.st.length:=by omega
   rw[(cw h).1,(cw h).2] at d;rw[(cw h).2,br.2,t];have:=((a.obj i h).lt d).1;omega
  ·obtain rfl:i=C.st.length:=by omega
   rw[(cw k).1,(cw k).2] at p;rw[(cw k).2,br.2,t];have:=((a.obj j k).lt p).1;omega
  ·omega
 ·rcases Nat.lt_or_ge i C.st.length with h|h
  ·rw[(cw h).1,(cw h).2] at d
   rw[(cw h).2];exact a.eZ i h d
  ·obtain rfl:i=C.st.length:=by omega
   rw[br.2,t];exact a.fresh (Nat.le_refl _)
 ·have:=a.ot b c
  exact⟨by show b<w.heap.size;omega,this.2.1,by show C.cls b<w.heap.size;omega⟩
 ·obtain⟨i,q,s,m⟩:=c
  rcases Nat.lt_or_ge i C.st.length with h|h
  ·rw[(cw h).1,(cw h).2] at s
   rw[(cw h).2] at m;exact .inl ⟨i,h,s,m⟩
  ·obtain rfl:i=C.st.length:=by omega
   rw[br.2,t] at m;refine .inr ?_;by_cases e:C.cls b=b
   ·have u:C.w.heap.size=C.cls b:=m
    omega
   ·have:=(a.ot b e).2.2
    have u:C.w.heap.size=C.cls b:=m;omega
def Ctx.dR(C:Ctx) i o w:={C with st:=dj C.st i o,w}
theorem hJ{C}(g:Inv C){i}(s:i<C.st.length){o w}(a:cv (C.ι i) (au C.st i)=true)(F:w.heap.size=C.w.heap.size)(p:dT C.w w)
  (m: ∀b,b≠(C.ι i).block->w.heap[b]? =C.w.heap[b]?) (I:bW C (C.dR i o w) i i) (J:kl (C.dR i o w) (C.ι i) o):Inv (C.dR i o w)/\Ext C.st.length C (C.dR i o w):=by
 have z:=(g.obj i s).lt a;have v:bK C (C.dR i o w):=⟨rfl,fun _ h=>h,fun b f=>m b (fun e=>z.2 (e▸f))⟩
 have l:(C.dR i o w).st.length=C.st.length:=a9 _ _ _;have t: ∀j,i≠j->au (C.dR i o w).st j=au C.st j:=fun j h=>bw _ _ _ _ h
 have H:au (C.dR i o w).st i=o:=bn _ _ _ s;have u: ∀j,j<C.st.length->i≠j->cv (C.ι j) (au C.st j)=true->(C.ι j).block≠(C.ι i).block:=fun j c d h=>g.u0 j i c s (Ne.symm d) h a
 have n: ∀j,j<C.st.length->bW C (C.dR i o w) j j:=fun j c=>by
  by_cases d:i=j
  ·subst d;exact I
  ·exact dW g c (by omega) (t j d) rfl (fun h b f=>⟨rfl,rfl,m _ (fun e=>u j c d h (by rw[←f,e,g.eZ i s a]))⟩)
 refine⟨⟨g.lay,fun j c=>?_,fun j k c r A q y=>?_,fun b f=>by have:=g.xs b f;show b<w.heap.size;omega,fun j c q=>?_,fun b f=>?_,g.lR v⟩,⟨v,by show _<=w.heap.size;omega,p.os,p.tape,p.output,fun b _ f=>m b (fun e=>f (e▸g.tI s a)),fun b f=> .inl f,fun b f=>?_,n,fun _=> .inl ⟨rfl,rfl⟩,rfl⟩⟩
 ·rw[l] at c
  by_cases d:i=j
  ·subst d;rw[H];exact J
  ·rw[t j d]
   refine(g.obj j c).gr v g.lay (fun j c _=>n j c) (g.eZ j c) ⟨fun b D f=>⟨(g.dA ⟨j,c,D,f.symm⟩).2,m _ (fun e=>?_)⟩,fun _ _=>⟨Iff.rfl,fun _=>rfl⟩,p,by show _<=w.heap.size;omega,fun _ _=>rfl⟩;subst e;rw[g.eZ i s a] at f;exact u j c d D f.symm
 ·rw[l] at c r
  have E: ∀k,k<C.st.length->cv ((C.dR i o w).ι k) (au (C.dR i o w).st k)=true->cv (C.ι k) (au C.st k)=true:=fun k v h=>by
   by_cases e:i=k
   ·subst e;exact a
   ·rwa [t k e] at h
  exact g.u0 j k c r A (E j c q) (E k r y)
 ·rw[l] at c
  by_cases e:i=j
  ·subst e;exact g.eZ i s a
  ·rw[t j e] at q
   exact g.eZ j c q
 ·have:=g.ot b f
  exact⟨by show b<w.heap.size;omega,this.2.1,by show C.cls b<w.heap.size;omega⟩
 ·obtain⟨j,c,B,x⟩:=f
  rw[l] at c;refine .inl ⟨j,c,?_,x⟩;by_cases e:i=j
  ·subst e;exact a
  ·rwa [t j e] at B
theorem dh.step{C C'}(hI:Inv C){s a}(h:dh C s a)(he:Ext C.st.length C C'):dh C' {s with st:=C'.st} a:=
 ⟨rfl,h.bz.gr he.keeps hI.lay he.refs⟩
end Go.Dn
