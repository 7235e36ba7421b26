import Derived.Test.YtioeffnadipbaaaGreatDoorDnL
namespace Go.Dn
open Go
mutual
theorem uE{P:Program}: ∀(a:AV) (T:TypeId),bE P a T->refs a=[]
 | .lit _,_,_| .ah _ _,_,_| .jK _ _,_,_| .fh _ _ _ _,_,_=>by simp[refs]
 | .agg l,T,h=>by simp only[bE] at h;obtain⟨fs,_,h2⟩:=h;simp only[refs];exact yP l _ h2
 | .jT U a,T,h=>by simp only[bE] at h;simp only[refs];exact uE a U h.2
 | .cP,_,h| .aH _,_,h| .ak _ _ _,_,h| .ptr _ _ _ _,_,h| .mp _,_,h| .cn _,_,h| .lZ _ _,_,h| .bo _ _,_,h=>by simp[bE] at h
theorem yP{P:Program}: ∀(l:List AV) (fs:List Field),eB P l fs->df l=[]
 |[],_,_=>by simp[df]
 |_::_,[],h=>by simp[eB] at h
 |a::l,f::fs,h=>by simp only[eB] at h;simp[df,uE a _ h.1,yP l fs h.2]
end
theorem Rel.pure{C C'}(hk:bW C C')(hl:ft C.P){a T}(ht:bE C.P a T){v}(h:Rel C a v):Rel C' a v:=
 h.gI hk hl fun i hi=>by grind [uE]
theorem cF.gI{C C'}(hk:bW C C')(hl:ft C.P){V}: ∀{es ents},cF C V es ents->cF C' V es ents
 |[],[],_=>trivial
 |[],_::_,h=>by grind [cF]
 |_::_,[],h=>by grind [cF]
 |(k,a)::es,e::ents,h=>by
  exact⟨h.1,by rw[hk.P];exact h.2.1,h.2.2.1.pure hk hl h.2.1,h.2.2.2.gI hk hl⟩
mutual
theorem A6(ρ:Nat->Option Nat): ∀a:AV,cX a=true->(∀i,i∈refs a->∃j,ρ i=some j)->cX (nL ρ a)=true
 | .agg l,h,hr=>by simp only[nL,cX] at h⊢;exact yY ρ l h (by simpa[refs] using hr)
 | .lit _,h,_=>by simpa[nL,cX] using h
 | .ah _ _,_,_| .jK _ _,_,_| .bo _ _,_,_| .jT _ _,_,_| .fh _ _ _ _,_,_=>by simp[nL,cX]
 | .ak i _ _,_,hr| .ptr i _ _ _,_,hr| .mp i,_,hr| .cn i,_,hr| .lZ i _,_,hr=>by
  obtain⟨j,hj⟩:=hr i (by simp[refs]);simp[nL,hj,cX]
 | .cP,h,_| .aH _,h,_=>by simp[cX] at h
theorem yY(ρ:Nat->Option Nat): ∀l:List AV,eh l=true->(∀i,i∈df l->∃j,ρ i=some j)->eh (gf ρ l)=true
 |[],_,_=>by simp[gf,eh]
 |a::l,h,hr=>by
  simp only[eh,aC6] at h;simp only[gf,eh,aC6];exact⟨A6 ρ a h.1 (fun i hi=>hr i (by simp[df,hi])),yY ρ l h.2 (fun i hi=>hr i (by simp[df,hi]))⟩
end
theorem dU g ρ o:cC g (fI ρ o)=cC g o:=by cases o<;>rfl
theorem mZ.gI{C C' B E k m l v}(hs: ∀b,C.cls b=B->C'.cls b=C.cls b/\C'.tI b=C.tI b/\C'.w.heap[b]? =C.w.heap[b]?)(h:mZ C B E k l m v):mZ C' B E k l m v:=by
 obtain⟨h1,h2|⟨b,cap,c,h2,h3,h4,h5,h6,h7,h8,h9⟩⟩:=h
 ·exact⟨h1, .inl h2⟩
 ·exact⟨h1,by grind⟩
def Cv:Obj->Bool
 | .ext _| .rows _ _ _ _=>true
 |_=>false
structure Still(C C':Ctx)(g:G)(o:Obj):Prop where
 blk: ∀b,cC g o=true->C.cls b=g.block-> ¬ C'.X b/\C'.w.heap[b]? =C.w.heap[b]?
 cls:Cv o=true->∀b,(C'.cls b=g.block↔C.cls b=g.block)/\(C.cls b=g.block->C'.tI b=C.tI b)
 os:er C.w C'.w
 size:C.w.heap.size<=C'.w.heap.size
 mX: ∀t,o= .ext t->C'.mX=C.mX
theorem kL.move{C C'}(hk:bW C C')(hl:ft C.P) ρ{g o}
  (hr: ∀i,i∈A4 o->i<C.st.length->∃j,ρ i=some j/\cj C C' i j) (hc:cC g o=true->C.cls g.block=g.block) (hS:Still C C' g o)
  (h:kL C g o):kL C' g (fI ρ o):=by
 have hX:cC g o=true-> ¬ C'.X g.block:=fun e=>(hS.blk _ e (hc e)).1
 have hh:cC g o=true->C'.w.heap[g.block]? =C.w.heap[g.block]? :=fun e=>(hS.blk _ e (hc e)).2
 have cell: ∀b,C'.w.heap[b]? =C.w.heap[b]? ->∀j,cellAt C'.w b j=cellAt C.w b j:=fun b hb j=>by simp only[cellAt,World.cell?,hb]
 cases o with
 |dead=>trivial
 |box T a=>
  obtain⟨h1,h2,c,e,h3,h4,h5⟩:=h;have hb:=hh rfl;refine⟨hX rfl,A6 ρ a h2 (fun i hi=>?_),c,e,by rw[hb];exact h3,by rw[qA];exact h4,?_⟩
  ·obtain⟨j,hj,_⟩:=hr i hi (Ud h5 i hi);exact⟨j,hj⟩
  ·exact tM hk hl ρ a _ _ _ _ hr (fun j _=>cell _ hb _) h5
 | row T xs=>
  obtain⟨h1,h2|⟨h2,h3,c,h4,h5,h6,h7,h8⟩⟩:=h
  ·exact⟨by rw[hk.P];exact h1, .inl h2⟩
  ·have ho:cC g (.row T xs)=true:=by simp[cC,h2]
   have hb:=hh ho;refine⟨by rw[hk.P];exact h1, .inr ⟨h2,hX ho,c,by rw[hb];exact h4,h5,h6,by rw[hk.P];exact h7,?_⟩⟩;rw[hk.P];exact gk hk hl xs T _ _ _ _ h1 (fun j _=>cell _ hb _) h8
 | l3 T xs=>
  obtain⟨h1,h2|⟨h2,h3,h4⟩⟩:=h
  ·exact⟨by rw[hk.P];exact h1, .inl h2⟩
  ·refine⟨by rw[hk.P];exact h1, .inr ⟨h2,hk.X _ h3,?_⟩⟩
   rw[hk.P];exact gk hk hl xs T _ _ _ _ h1 (fun j _=>cell _ (hk.heap _ h3) _) h4
 |map K V es=>
  obtain⟨h1,entries,clock,h2,h3,h4⟩:=h;exact⟨hX rfl,entries,clock,by rw[hh rfl];exact h2,h3.gI hk hl,by rw[hk.P];exact h4⟩
 |loop r=>
  obtain⟨h1,rec,h2,h3⟩:=h;refine⟨hX rfl,rec,by rw[hh rfl];exact h2,⟨h3.state,h3.pending,h3.params,h3.assign,h3.body,h3.bF.move hk hl ρ hr⟩⟩
 |iter i n ks=>
  obtain⟨h1,hi,m,since,seen,stepped,h2,h3⟩:=h;obtain⟨j,hj,hrf⟩:=hr i (by simp[A4]) hi;simp only[fI,hj];exact⟨hX rfl,hrf.lt,m,since,seen,stepped,by rw[hh rfl];exact h2,h3.move hrf⟩
 |dD s p=>exact⟨hX rfl,by rw[hh rfl];exact h.2⟩
 |rows T E ls pd=>
  obtain⟨h1,h2,h3,h4,c,h5,h6,h7⟩:=h;refine⟨hX rfl,by rw[hk.P];exact h2,by rw[hk.P];exact h3,by rw[hk.P];exact h4,c,by rw[hh rfl];exact h5,h6,fun k hk' hp=>?_⟩;obtain⟨v,h8,h9⟩:=h7 k hk' hp;exact⟨v,h8,h9.gI fun b hb=>⟨((hS.cls rfl b).1.2 hb).trans hb.symm,(hS.cls rfl b).2 hb,(hS.blk b rfl hb).2⟩⟩
 |fit K V ks vs met=>
  obtain⟨h1,m,since,seen,stepped,h2,h3⟩:=h;refine⟨hX rfl,m,since,seen,stepped,by rw[hh rfl];exact h2,?_⟩;rcases h3 with h3|⟨b,ents,clock,g1,g2,g3,g4,g5,g6,g7,g8⟩
  ·exact .inl h3
  ·exact .inr ⟨b,ents,clock,g1,hk.X b g2,by rw[hk.heap b g2];exact g3,by rw[hk.P];exact g4,g5,by rw[hk.P];exact g6,qg hk hl vs V _ g6 g7,g8⟩
 |ext t=>
  obtain⟨h1,h2,h3,h4⟩:=h;refine⟨hX rfl,by have:=hS.size;omega,?_,by rw[hk.P,hS.mX t rfl];exact h4⟩;rw[hS.mX t rfl,show(fun b=>C'.cls b=g.block)=(fun b=>C.cls b=g.block) from funext fun b=>propext (hS.cls rfl b).1];exact h4.still t _ C.X C'.X C.w C'.w h3 hk.X (fun b hb=>(hS.blk b rfl hb).1) (fun b hb=>hb.elim (fun h=>(hS.blk b rfl h).2) (hk.heap b)) hS.os hS.size
theorem My o:fI some o=o:=by
 cases o<;>simp[fI]
 ·rw[lR]
 ·rw[gQ]
theorem kL.gI{C C'}(hk:bW C C')(hl:ft C.P){g o}(hr: ∀i,i<C.st.length->i∈A4 o->cj C C' i i)(hc:cC g o=true->C.cls g.block=g.block)(hS:Still C C' g o)
  (h:kL C g o):kL C' g o:=by
 have:=h.move hk hl some (by grind) hc hS
 grind [My]
theorem bc: ∀l i x,(dv l i x).length=l.length
 |[],_,_=>rfl
 |_::_,0,_=>rfl
 |_::l,i+1,x=>by simp[dv,bc l i x]
theorem bw: ∀l i x,i<l.length->ay (dv l i x) i=x
 |[],_,_,h=>by grind
 |_::_,0,_,_=>rfl
 |_::l,i+1,x,h=>by exact bw l i x (by grind)
theorem bJ: ∀l i j x,i≠j->ay (dv l i x) j=ay l j
 |[],_,_,_,_=>rfl
 |_::_,0,j,_,h=>by cases j with|zero=>grind|succ j=>rfl
 |_::l,i+1,j,x,h=>by
  cases j with
  |zero=>rfl
  |succ j=>exact bJ l i j x (by omega)
theorem et: ∀l m i,i<l.length->ay (l++m) i=ay l i
 |[],_,_,h=>by grind
 |_::_,_,0,_=>rfl
 |_::l,m,i+1,h=>by exact et l m i (by grind)
theorem gY: ∀l m i,ay (l++m) (l.length+i)=ay m i
 |[],_,_=>by simp
 |_::l,m,i=>by
  simp[show l.length+1+i=l.length+i+1 by omega];exact gY l m i
theorem fk: ∀l i,l.length<=i->ay l i= .dead
 |[],_,_=>rfl
 |_::l,0,h=>by grind
 |_::l,i+1,h=>by exact fk l i (by grind)
def zZ(C:Ctx) g:=fun i=>if i=C.st.length then g else C.ι i
def Ctx.add(C:Ctx) o g w:={C with st:=C.st++[o],ι:=zZ C g,w}
theorem cD{C:Ctx}{o g w i}(h:i<C.st.length):ay (C.add o g w).st i=ay C.st i/\(C.add o g w).ι i=C.ι i:=by
 refine⟨et _ _ _ h,?_⟩;simp[Ctx.add,zZ];grind
theorem bC{C:Ctx}{o g w}:ay (C.add o g w).st C.st.length=o/\(C.add o g w).ι C.st.length=g:=by
 refine⟨?_,?_⟩
 ·have:=gY C.st [o] 0
  grind [Ctx.add,ay]
 ·simp[Ctx.add,zZ]
theorem eQ{C C'}(hI:Inv C){i}(hi:i<C.st.length)(h:i<C'.st.length)(h1:ay C'.st i=ay C.st i)(h2:C'.ι i=C.ι i)
  (h3:cC (C.ι i) (ay C.st i)=true->∀b,C.cls b=(C.ι i).block->C'.cls b=C.cls b/\C'.tI b=C.tI b/\C'.w.heap[b]? =C.w.heap[b]?):cj C C' i i:=by
 refine⟨h,by grind,by grind,fun K V es hx=>?_,by grind,by grind,by grind,by grind,
  by grind,fun T E ls pd hx=>?_⟩<;>rw[h1] at hx
 ·refine⟨es,hx,h2,fun ents clock hh=>⟨ents,clock,?_,eE.refl _ _⟩⟩
  have ho:cC (C.ι i) (ay C.st i)=true:=by rw[hx];rfl
  rw[(h3 ho _ (hI.fz i hi ho)).2.2];exact hh
 ·exact⟨ls,pd,hx,h2,rfl,fun k m v hv=>hv.gI (h3 (by rw[hx];rfl))⟩
theorem uF{C C' i}(h:i<C'.st.length)(h1:ay C'.st i= .dead):cj C C' i i:=
 ⟨h,fun T xs hx=>by grind [iL],by grind,by grind,by grind,by grind,by grind,by grind,by grind,by grind⟩
theorem gm{C}(a:Inv C){o g w}(t:g.block=C.w.heap.size)(r:C.w.heap.size<=w.heap.size)(n:er C.w w)(f: ∀b,b<C.w.heap.size->w.heap[b]? =C.w.heap[b]?)
  (A:kL (C.add o g w) g o):Inv (C.add o g w)/\Ext C.st.length C (C.add o g w):=by
 have x:bW C (C.add o g w):=⟨rfl,fun _ h=>h,fun b c=>f b (a.xs b c)⟩
 have z:(C.add o g w).st.length=C.st.length+1:=by simp[Ctx.add]
 have l: ∀i,i<C.st.length->cj C (C.add o g w) i i:=fun i q=>
  eQ a q (by omega) (cD q).1 (cD q).2 (fun h b c=>⟨rfl,rfl,f _ (a.dG ⟨i,q,h,c.symm⟩).1⟩)
 refine⟨⟨a.lay,fun i q=>?_,fun i j q y v d p=>?_,fun b c=>by have:=a.xs b c;show b<w.heap.size;omega,fun i q d=>?_,fun b c=>?_,a.mo x⟩,⟨x,r,n.os,n.tape,n.output,fun b c _=>f b c,fun b c=> .inl c,fun b c=>?_,l,fun _=> .inl ⟨rfl,rfl⟩,rfl⟩⟩
 ·rcases Nat.lt_or_ge i C.st.length with h|h
  ·rw[(cD h).1,(cD h).2]
   exact(a.obj i h).gI x a.lay (fun j y _=>l j y) (a.fz i h) ⟨fun b k c=>⟨(a.dG ⟨i,h,k,c.symm⟩).2,f _ (a.dG ⟨i,h,k,c.symm⟩).1⟩,fun _ _=>⟨Iff.rfl,fun _=>rfl⟩,n,r,fun _ _=>rfl⟩
  ·obtain rfl:i=C.st.length:=by omega
   rw[bC.1,bC.2];exact A
 ·rcases Nat.lt_or_ge i C.st.length with h|h<;>rcases Nat.lt_or_ge j C.st.length with k|k
  ·rw[(cD h).1,(cD h).2] at d
   rw[(cD k).1,(cD k).2] at p;rw[(cD h).2,(cD k).2];exact a.tH i j h k v d p
  ·obtain rfl:j=C.st.length:=by omega
   rw[(cD h).1,(cD h).2] at d;rw[(cD h).2,bC.2,t];have:=((a.obj i h).lt d).1;omega
  ·obtain rfl:i=C.st.length:=by omega
   rw[(cD k).1,(cD k).2] at p;rw[(cD k).2,bC.2,t];have:=((a.obj j k).lt p).1;omega
  ·omega
 ·rcases Nat.lt_or_ge i C.st.length with h|h
  ·rw[(cD h).1,(cD h).2] at d
   rw[(cD h).2];exact a.fz i h d
  ·obtain rfl:i=C.st.length:=by omega
   rw[bC.2,t];exact a.fresh (Nat.le_refl _)
 ·have:=a.oX b c
  exact⟨by show b<w.heap.size;omega,this.2.1,by show C.cls b<w.heap.size;omega⟩
 ·obtain⟨i,q,s,m⟩:=c
  rcases Nat.lt_or_ge i C.st.length with h|h
  ·rw[(cD h).1,(cD h).2] at s
   rw[(cD h).2] at m;exact .inl ⟨i,h,s,m⟩
  ·obtain rfl:i=C.st.length:=by omega
   rw[bC.2,t] at m;refine .inr ?_;by_cases e:C.cls b=b
   ·have u:C.w.heap.size=C.cls b:=m
    omega
   ·have:=(a.oX b e).2.2
    have u:C.w.heap.size=C.cls b:=m;omega
def Ctx.eD(C:Ctx) i o w:={C with st:=dv C.st i o,w}
theorem jj{C}(g:Inv C){i}(s:i<C.st.length){o w}(a:cC (C.ι i) (ay C.st i)=true)(F:w.heap.size=C.w.heap.size)(p:er C.w w)
  (m: ∀b,b≠(C.ι i).block->w.heap[b]? =C.w.heap[b]?) (I:cj C (C.eD i o w) i i) (J:kL (C.eD i o w) (C.ι i) o):Inv (C.eD i o w)/\Ext C.st.length C (C.eD i o w):=by
 have z:=(g.obj i s).lt a;have v:bW C (C.eD i o w):=⟨rfl,fun _ h=>h,fun b f=>m b (fun e=>z.2 (e▸f))⟩
 have l:(C.eD i o w).st.length=C.st.length:=bc _ _ _;have t: ∀j,i≠j->ay (C.eD i o w).st j=ay C.st j:=fun j h=>bJ _ _ _ _ h
 have H:ay (C.eD i o w).st i=o:=bw _ _ _ s;have u: ∀j,j<C.st.length->i≠j->cC (C.ι j) (ay C.st j)=true->(C.ι j).block≠(C.ι i).block:=fun j c d h=>g.tH j i c s (Ne.symm d) h a
 have n: ∀j,j<C.st.length->cj C (C.eD i o w) j j:=fun j c=>by
  by_cases d:i=j
  ·subst d;exact I
  ·exact eQ g c (by omega) (t j d) rfl (fun h b f=>⟨rfl,rfl,m _ (fun e=>u j c d h (by rw[←f,e,g.fz i s a]))⟩)
 refine⟨⟨g.lay,fun j c=>?_,fun j k c r A q y=>?_,fun b f=>by have:=g.xs b f;show b<w.heap.size;omega,fun j c q=>?_,fun b f=>?_,g.mo v⟩,⟨v,by show _<=w.heap.size;omega,p.os,p.tape,p.output,fun b _ f=>m b (fun e=>f (e▸g.uA s a)),fun b f=> .inl f,fun b f=>?_,n,fun _=> .inl ⟨rfl,rfl⟩,rfl⟩⟩
 ·rw[l] at c
  by_cases d:i=j
  ·subst d;rw[H];exact J
  ·rw[t j d]
   refine(g.obj j c).gI v g.lay (fun j c _=>n j c) (g.fz j c) ⟨fun b D f=>⟨(g.dG ⟨j,c,D,f.symm⟩).2,m _ (fun e=>?_)⟩,fun _ _=>⟨Iff.rfl,fun _=>rfl⟩,p,by show _<=w.heap.size;omega,fun _ _=>rfl⟩;subst e;rw[g.fz i s a] at f;exact u j c d D f.symm
 ·rw[l] at c r
  have E: ∀k,k<C.st.length->cC ((C.eD i o w).ι k) (ay (C.eD i o w).st k)=true->cC (C.ι k) (ay C.st k)=true:=fun k v h=>by
   by_cases e:i=k
   ·subst e;exact a
   ·rwa [t k e] at h
  exact g.tH j k c r A (E j c q) (E k r y)
 ·rw[l] at c
  by_cases e:i=j
  ·subst e;exact g.fz i s a
  ·rw[t j e] at q
   exact g.fz j c q
 ·have:=g.oX b f
  exact⟨by show b<w.heap.size;omega,this.2.1,by show C.cls b<w.heap.size;omega⟩
 ·obtain⟨j,c,B,x⟩:=f
  rw[l] at c;refine .inl ⟨j,c,?_,x⟩;by_cases e:i=j
  ·subst e;exact a
  ·rwa [t j e] at B
theorem dr.step{C C'}(hI:Inv C){s a}(h:dr C s a)(he:Ext C.st.length C C'):dr C' {s with st:=C'.st} a:=
 ⟨rfl,h.bF.gI he.keeps hI.lay he.refs⟩
end Go.Dn
