import Derived.Test.YtioeffnadipbaaaGreatDoorDnL
namespace Go.Dn
open Go
mutual
theorem rY{P:Program}: ∀(a:AV) (T:TypeId),br P a T->refs a=[]
 | .lit _,_,_| .ad _ _,_,_| .iY _ _,_,_| .fJ _ _ _ _,_,_=>by simp[refs]
 | .agg l,T,h=>by simp only[br] at h;obtain⟨fs,_,h2⟩:=h;simp only[refs];exact vF l _ h2
 | .iN U a,T,h=>by simp only[br] at h;simp only[refs];exact rY a U h.2
 | .cK,_,h| .aX _,_,h| .aB _ _ _,_,h| .ptr _ _ _ _,_,h| .mp _,_,h| .de _,_,h| .jV _ _,_,h| .bq _ _,_,h=>by simp[br] at h
theorem vF{P:Program}: ∀(l:List AV) (fs:List Field),dy P l fs->cW l=[]
 |[],_,_=>by simp[cW]
 |_::_,[],h=>by simp[dy] at h
 |a::l,f::fs,h=>by simp only[dy] at h;simp[cW,rY a _ h.1,vF l fs h.2]
end
theorem Rel.pure{C C':Ctx}(hk:bH C C')(hl:eI C.P){a:AV}{T:TypeId}(ht:br C.P a T){v:Value}(h:Rel C a v):Rel C' a v:=
 h.eu hk hl (fun i hi=>by rw[rY a T ht] at hi;simp at hi)
theorem bZ.eu{C C':Ctx}(hk:bH C C')(hl:eI C.P){V:TypeId}: ∀{es:List (Value×AV)} {ents:List MapEntry},bZ C V es ents->bZ C' V es ents
 |[],[],_=>trivial
 |[],_::_,h=>by simp[bZ] at h
 |_::_,[],h=>by simp[bZ] at h
 |(k,a)::es,e::ents,h=>by
  simp only[bZ] at h⊢
  exact⟨h.1,by rw[hk.P];exact h.2.1,h.2.2.1.pure hk hl h.2.1,h.2.2.2.eu hk hl⟩
mutual
theorem xD(ρ:Nat->Option Nat): ∀a:AV,cQ a=true->(∀i,i∈refs a->∃j,ρ i=some j)->cQ (ll ρ a)=true
 | .agg l,h,hr=>by simp only[ll,cQ] at h⊢;exact vJ ρ l h (by simpa[refs] using hr)
 | .lit _,h,_=>by simpa[ll,cQ] using h
 | .ad _ _,_,_| .iY _ _,_,_| .bq _ _,_,_| .iN _ _,_,_| .fJ _ _ _ _,_,_=>by simp[ll,cQ]
 | .aB i _ _,_,hr| .ptr i _ _ _,_,hr| .mp i,_,hr| .de i,_,hr| .jV i _,_,hr=>by
  obtain⟨j,hj⟩:=hr i (by simp[refs])
  simp[ll,hj,cQ]
 | .cK,h,_| .aX _,h,_=>by simp[cQ] at h
theorem vJ(ρ:Nat->Option Nat): ∀l:List AV,dA l=true->(∀i,i∈cW l->∃j,ρ i=some j)->dA (fY ρ l)=true
 |[],_,_=>by simp[fY,dA]
 |a::l,h,hr=>by
  simp only[dA,aa1] at h
  simp only[fY,dA,aa1]
  exact⟨xD ρ a h.1 (fun i hi=>hr i (by simp[cW,hi])),vJ ρ l h.2 (fun i hi=>hr i (by simp[cW,hi]))⟩
end
theorem dB(g:G)(ρ:Nat->Option Nat)(o:Obj):cr g (eY ρ o)=cr g o:=by cases o<;>rfl
theorem lB.eu{C C':Ctx}{B:Nat}{E:TypeId}{k m:Nat}{l:List Value}{v:Value}(hs: ∀b,C.cls b=B->C'.cls b=C.cls b/\C'.rk b=C.rk b/\C'.w.heap[b]? =C.w.heap[b]?)(h:lB C B E k l m v):lB C' B E k l m v:=by
 obtain⟨h1,h2|⟨b,cap,c,h2,h3,h4,h5,h6,h7,h8,h9⟩⟩:=h
 ·exact⟨h1, .inl h2⟩
 ·obtain⟨g1,g2,g3⟩:=hs b h5
  exact⟨h1, .inr ⟨b,cap,c,h2,h3,h4,by rw[g1];exact h5,h6,by rw[g2];exact h7,by rw[g3];exact h8,h9⟩⟩
def yz:Obj->Bool
 | .ext _| .rows _ _ _ _=>true
 |_=>false
structure Still(C C':Ctx)(g:G)(o:Obj):Prop where
 SP: ∀b,cr g o=true->C.cls b=g.block-> ¬ C'.X b/\C'.w.heap[b]? =C.w.heap[b]?
 cls:yz o=true->∀b,(C'.cls b=g.block↔C.cls b=g.block)/\(C.cls b=g.block->C'.rk b=C.rk b)
 os:dN C.w C'.w
 size:C.w.heap.size<=C'.w.heap.size
 lr: ∀t,o= .ext t->C'.lr=C.lr
theorem jF.move{C C':Ctx}(hk:bH C C')(hl:eI C.P)(ρ:Nat->Option Nat){g:G}{o:Obj}
  (hr: ∀i,i∈wR o->i<C.st.length->∃j,ρ i=some j/\bU C C' i j) (hc:cr g o=true->C.cls g.block=g.block) (hS:Still C C' g o)
  (h:jF C g o):jF C' g (eY ρ o):=by
 have hX:cr g o=true-> ¬ C'.X g.block:=fun e=>(hS.SP _ e (hc e)).1
 have hh:cr g o=true->C'.w.heap[g.block]? =C.w.heap[g.block]? :=fun e=>(hS.SP _ e (hc e)).2
 have cell: ∀b,C'.w.heap[b]? =C.w.heap[b]? ->∀j,cellAt C'.w b j=cellAt C.w b j:=fun b hb j=>by simp only[cellAt,World.cell?,hb]
 cases o with
 |dead=>trivial
 |box T a=>
  obtain⟨h1,h2,c,e,h3,h4,h5⟩:=h
  have hb:=hh rfl
  refine⟨hX rfl,xD ρ a h2 (fun i hi=>?_),c,e,by rw[hb];exact h3,by rw[ot];exact h4,?_⟩
  ·obtain⟨j,hj,_⟩:=hr i hi (Mr h5 i hi);exact⟨j,hj⟩
  ·exact pN hk hl ρ a _ _ _ _ hr (fun j _=>cell _ hb _) h5
 | row T xs=>
  obtain⟨h1,h2|⟨h2,h3,c,h4,h5,h6,h7,h8⟩⟩:=h
  ·exact⟨by rw[hk.P];exact h1, .inl h2⟩
  ·have ho:cr g (.row T xs)=true:=by simp[cr,h2]
   have hb:=hh ho
   refine⟨by rw[hk.P];exact h1, .inr ⟨h2,hX ho,c,by rw[hb];exact h4,h5,h6,by rw[hk.P];exact h7,?_⟩⟩
   rw[hk.P]
   exact fI hk hl xs T _ _ _ _ h1 (fun j _=>cell _ hb _) h8
 | kC T xs=>
  obtain⟨h1,h2|⟨h2,h3,h4⟩⟩:=h
  ·exact⟨by rw[hk.P];exact h1, .inl h2⟩
  ·refine⟨by rw[hk.P];exact h1, .inr ⟨h2,hk.X _ h3,?_⟩⟩
   rw[hk.P]
   exact fI hk hl xs T _ _ _ _ h1 (fun j _=>cell _ (hk.heap _ h3) _) h4
 |map K V es=>
  obtain⟨h1,entries,clock,h2,h3,h4⟩:=h
  exact⟨hX rfl,entries,clock,by rw[hh rfl];exact h2,h3.eu hk hl,by rw[hk.P];exact h4⟩
 |loop r=>
  obtain⟨h1,rec,h2,h3⟩:=h
  refine⟨hX rfl,rec,by rw[hh rfl];exact h2,⟨h3.state,h3.pending,h3.params,h3.assign,h3.body,h3.bg.move hk hl ρ hr⟩⟩
 |iter i n ks=>
  obtain⟨h1,hi,m,since,seen,stepped,h2,h3⟩:=h
  obtain⟨j,hj,hrf⟩:=hr i (by simp[wR]) hi
  simp only[eY,hj]
  exact⟨hX rfl,hrf.lt,m,since,seen,stepped,by rw[hh rfl];exact h2,h3.move hrf⟩
 |dq s p=>exact⟨hX rfl,by rw[hh rfl];exact h.2⟩
 |rows T E ls pd=>
  obtain⟨h1,h2,h3,h4,c,h5,h6,h7⟩:=h
  refine⟨hX rfl,by rw[hk.P];exact h2,by rw[hk.P];exact h3,by rw[hk.P];exact h4,c,by rw[hh rfl];exact h5,h6,fun k hk' hp=>?_⟩
  obtain⟨v,h8,h9⟩:=h7 k hk' hp
  exact⟨v,h8,h9.eu fun b hb=>⟨((hS.cls rfl b).1.2 hb).trans hb.symm,(hS.cls rfl b).2 hb,(hS.SP b rfl hb).2⟩⟩
 |fit K V ks vs met=>
  obtain⟨h1,m,since,seen,stepped,h2,h3⟩:=h
  refine⟨hX rfl,m,since,seen,stepped,by rw[hh rfl];exact h2,?_⟩
  rcases h3 with h3|⟨b,ents,clock,g1,g2,g3,g4,g5,g6,g7,g8⟩
  ·exact .inl h3
  ·exact .inr ⟨b,ents,clock,g1,hk.X b g2,by rw[hk.heap b g2];exact g3,by rw[hk.P];exact g4,g5,by rw[hk.P];exact g6,oM hk hl vs V _ g6 g7,g8⟩
 |ext t=>
  obtain⟨h1,h2,h3,h4⟩:=h
  refine⟨hX rfl,by have:=hS.size;omega,?_,by rw[hk.P,hS.lr t rfl];exact h4⟩
  rw[hS.lr t rfl,show(fun b=>C'.cls b=g.block)=(fun b=>C.cls b=g.block) from funext fun b=>propext (hS.cls rfl b).1]
  exact h4.still t _ C.X C'.X C.w C'.w h3 hk.X (fun b hb=>(hS.SP b rfl hb).1) (fun b hb=>hb.elim (fun h=>(hS.SP b rfl h).2) (hk.heap b)) hS.os hS.size
theorem Gt(o:Obj):eY some o=o:=by
 cases o<;>simp only[eY]
 ·rw[jk]
 ·rename_i r;rw[fq]
theorem jF.eu{C C':Ctx}(hk:bH C C')(hl:eI C.P){g:G}{o:Obj}(hr: ∀i,i<C.st.length->i∈wR o->bU C C' i i)(hc:cr g o=true->C.cls g.block=g.block)(hS:Still C C' g o)
  (h:jF C g o):jF C' g o:=by
 have:=h.move hk hl some (fun i hi hlt=>⟨i,rfl,hr i hlt hi⟩) hc hS
 rwa [Gt] at this
theorem aU: ∀(l:List Obj) (i:Nat) (x:Obj),(c9 l i x).length=l.length
 |[],_,_=>rfl
 |_::_,0,_=>rfl
 |_::l,i+1,x=>by simp[c9,aU l i x]
theorem bn: ∀(l:List Obj) (i:Nat) (x:Obj),i<l.length->an (c9 l i x) i=x
 |[],_,_,h=>by simp at h
 |_::_,0,_,_=>rfl
 |_::l,i+1,x,h=>by simp only[c9,an];exact bn l i x (by simpa using h)
theorem bt: ∀(l:List Obj) (i j:Nat) (x:Obj),i≠j->an (c9 l i x) j=an l j
 |[],_,_,_,_=>rfl
 |_::_,0,j,_,h=>by cases j with|zero=>exact absurd rfl h|succ j=>rfl
 |_::l,i+1,j,x,h=>by
  cases j with
  |zero=>rfl
  |succ j=>simp only[c9,an];exact bt l i j x (by omega)
theorem dL: ∀(l m:List Obj) (i:Nat),i<l.length->an (l++m) i=an l i
 |[],_,_,h=>by simp at h
 |_::_,_,0,_=>rfl
 |_::l,m,i+1,h=>by simp only[List.cons_append,an];exact dL l m i (by simpa using h)
theorem fW: ∀(l m:List Obj) (i:Nat),an (l++m) (l.length+i)=an m i
 |[],_,_=>by simp
 |_::l,m,i=>by
  simp only[List.cons_append,List.length_cons,show l.length+1+i=(l.length+i)+1 by omega,an]
  exact fW l m i
theorem eh: ∀(l:List Obj) (i:Nat),l.length<=i->an l i= .dead
 |[],_,_=>rfl
 |_::l,0,h=>by simp at h
 |_::l,i+1,h=>by simp only[an];exact eh l i (by simpa using h)
def wY(C:Ctx)(g:G):Nat->G:=fun i=>if i=C.st.length then g else C.ι i
def Ctx.add(C:Ctx)(o:Obj)(g:G)(w:World):Ctx:={C with st:=C.st++[o],ι:=wY C g,w}
theorem cu{C:Ctx}{o:Obj}{g:G}{w:World}{i:Nat}(h:i<C.st.length):an (C.add o g w).st i=an C.st i/\(C.add o g w).ι i=C.ι i:=by
 refine⟨dL _ _ _ h,?_⟩
 simp only[Ctx.add,wY];rw[if_neg (by omega)]
theorem bp{C:Ctx}{o:Obj}{g:G}{w:World}:an (C.add o g w).st C.st.length=o/\(C.add o g w).ι C.st.length=g:=by
 refine⟨?_,?_⟩
 ·have:=fW C.st [o] 0
  simpa[Ctx.add,an] using this
 ·simp only[Ctx.add,wY,if_true]
theorem dM{C C':Ctx}(hI:Inv C){i:Nat}(hi:i<C.st.length)(h:i<C'.st.length)(h1:an C'.st i=an C.st i)(h2:C'.ι i=C.ι i)
  (h3:cr (C.ι i) (an C.st i)=true->∀b,C.cls b=(C.ι i).block->C'.cls b=C.cls b/\C'.rk b=C.rk b/\C'.w.heap[b]? =C.w.heap[b]?):bU C C' i i:=by
 refine⟨h,fun T xs hx=>⟨xs,by rw[←h1];exact hx,h2,Nat.le_refl _⟩,fun T a hx=>⟨a,by rw[←h1];exact hx,h2⟩,fun K V es hx=>?_,fun r hx=>⟨r,by rw[←h1];exact hx,h2⟩,fun m n ks hx=>⟨m,ks,by rw[←h1];exact hx,h2⟩,fun t hx=>⟨t,by rw[←h1];exact hx,h2⟩,fun s p hx=>⟨p,by rw[←h1];exact hx,h2⟩,
  fun K V ks vs met hx=>⟨met,by rw[←h1];exact hx,h2⟩,fun T E ls pd hx=>?_⟩<;>rw[h1] at hx
 ·refine⟨es,hx,h2,fun ents clock hh=>⟨ents,clock,?_,dW.refl _ _⟩⟩
  have ho:cr (C.ι i) (an C.st i)=true:=by rw[hx];rfl
  rw[(h3 ho _ (hI.eQ i hi ho)).2.2];exact hh
 ·exact⟨ls,pd,hx,h2,rfl,fun k m v hv=>hv.eu (h3 (by rw[hx];rfl))⟩
theorem rQ{C C':Ctx}{i:Nat}(h:i<C'.st.length)(h1:an C'.st i= .dead):bU C C' i i:=
 ⟨h,fun T xs hx=>(by rw[h1] at hx;simp[gC] at hx),fun T a hx=>(by rw[h1] at hx;cases hx),fun K V es hx=>(by rw[h1] at hx;cases hx),fun r hx=>(by rw[h1] at hx;cases hx),fun _ _ _ hx=>(by rw[h1] at hx;cases hx),fun _ hx=>(by rw[h1] at hx;cases hx),fun _ _ hx=>(by rw[h1] at hx;cases hx),fun _ _ _ _ _ hx=>(by rw[h1] at hx;cases hx),fun _ _ _ _ hx=>(by rw[h1] at hx;cases hx)⟩
theorem fx{C:Ctx}(hI:Inv C){o:Obj}{g:G}{w:World}(hg:g.block=C.w.heap.size)(hsz:C.w.heap.size<=w.heap.size)(hos:dN C.w w)(hold: ∀b,b<C.w.heap.size->w.heap[b]? =C.w.heap[b]?)
  (ho:jF (C.add o g w) g o):Inv (C.add o g w)/\Ext C.st.length C (C.add o g w):=by
 have hk:bH C (C.add o g w):=⟨rfl,fun _ h=>h,fun b hb=>hold b (hI.xs b hb)⟩
 have hlen:(C.add o g w).st.length=C.st.length+1:=by simp[Ctx.add]
 have hrefs: ∀i,i<C.st.length->bU C (C.add o g w) i i:=fun i hi=>
  dM hI hi (by omega) (cu hi).1 (cu hi).2 (fun h b hb=>⟨rfl,rfl,hold _ (hI.dv ⟨i,hi,h,hb.symm⟩).1⟩)
 refine⟨⟨hI.lay,fun i hi=>?_,fun i j hi hj hij hoi hoj=>?_,fun b hb=>by have:=hI.xs b hb;show b<w.heap.size;omega,fun i hi hoi=>?_,fun b hb=>?_,hI.kJ hk⟩,⟨hk,hsz,hos.os,hos.tape,hos.output,fun b hb _=>hold b hb,fun b hb=> .inl hb,fun b hb=>?_,hrefs,fun _=> .inl ⟨rfl,rfl⟩,rfl⟩⟩
 ·rcases Nat.lt_or_ge i C.st.length with h|h
  ·rw[(cu h).1,(cu h).2]
   exact(hI.obj i h).eu hk hI.lay (fun j hj _=>hrefs j hj) (hI.eQ i h) ⟨fun b h' hb=>⟨(hI.dv ⟨i,h,h',hb.symm⟩).2,hold _ (hI.dv ⟨i,h,h',hb.symm⟩).1⟩,fun _ _=>⟨Iff.rfl,fun _=>rfl⟩,hos,hsz,fun _ _=>rfl⟩
  ·obtain rfl:i=C.st.length:=by omega
   rw[bp.1,bp.2];exact ho
 ·rcases Nat.lt_or_ge i C.st.length with h|h<;>rcases Nat.lt_or_ge j C.st.length with h'|h'
  ·rw[(cu h).1,(cu h).2] at hoi
   rw[(cu h').1,(cu h').2] at hoj
   rw[(cu h).2,(cu h').2]
   exact hI.s8 i j h h' hij hoi hoj
  ·obtain rfl:j=C.st.length:=by omega
   rw[(cu h).1,(cu h).2] at hoi
   rw[(cu h).2,bp.2,hg]
   have:=((hI.obj i h).lt hoi).1;omega
  ·obtain rfl:i=C.st.length:=by omega
   rw[(cu h').1,(cu h').2] at hoj
   rw[(cu h').2,bp.2,hg]
   have:=((hI.obj j h').lt hoj).1;omega
  ·omega
 ·rcases Nat.lt_or_ge i C.st.length with h|h
  ·rw[(cu h).1,(cu h).2] at hoi
   rw[(cu h).2]
   exact hI.eQ i h hoi
  ·obtain rfl:i=C.st.length:=by omega
   rw[bp.2,hg]
   exact hI.fresh (Nat.le_refl _)
 ·have:=hI.mT b hb
  exact⟨by show b<w.heap.size;omega,this.2.1,by show C.cls b<w.heap.size;omega⟩
 ·obtain⟨i,hi,ho',hb'⟩:=hb
  rcases Nat.lt_or_ge i C.st.length with h|h
  ·rw[(cu h).1,(cu h).2] at ho'
   rw[(cu h).2] at hb'
   exact .inl ⟨i,h,ho',hb'⟩
  ·obtain rfl:i=C.st.length:=by omega
   rw[bp.2,hg] at hb'
   refine .inr ?_
   by_cases e:C.cls b=b
   ·have hb2:C.w.heap.size=C.cls b:=hb'
    omega
   ·have:=(hI.mT b e).2.2
    have hb2:C.w.heap.size=C.cls b:=hb'
    omega
def Ctx.dC(C:Ctx)(i:Nat)(o:Obj)(w:World):Ctx:={C with st:=c9 C.st i o,w}
theorem gz{C:Ctx}(hI:Inv C){i:Nat}(hi:i<C.st.length){o:Obj}{w:World}(hown:cr (C.ι i) (an C.st i)=true)(hsz:w.heap.size=C.w.heap.size)(hos:dN C.w w)
  (hold: ∀b,b≠(C.ι i).block->w.heap[b]? =C.w.heap[b]?) (hr:bU C (C.dC i o w) i i) (ho:jF (C.dC i o w) (C.ι i) o):Inv (C.dC i o w)/\Ext C.st.length C (C.dC i o w):=by
 have hi':=(hI.obj i hi).lt hown
 have hk:bH C (C.dC i o w):=⟨rfl,fun _ h=>h,fun b hb=>hold b (fun e=>hi'.2 (e▸hb))⟩
 have hlen:(C.dC i o w).st.length=C.st.length:=aU _ _ _
 have hn: ∀j,i≠j->an (C.dC i o w).st j=an C.st j:=fun j h=>bt _ _ _ _ h
 have hs:an (C.dC i o w).st i=o:=bn _ _ _ hi
 have hne: ∀j,j<C.st.length->i≠j->cr (C.ι j) (an C.st j)=true->(C.ι j).block≠(C.ι i).block:=fun j hj hij h=>hI.s8 j i hj hi (Ne.symm hij) h hown
 have hrefs: ∀j,j<C.st.length->bU C (C.dC i o w) j j:=fun j hj=>by
  by_cases hij:i=j
  ·subst hij;exact hr
  ·exact dM hI hj (by omega) (hn j hij) rfl (fun h b hb=>⟨rfl,rfl,hold _ (fun e=>hne j hj hij h (by rw[←hb,e,hI.eQ i hi hown]))⟩)
 refine⟨⟨hI.lay,fun j hj=>?_,fun j k hj hk' hjk hoj hok=>?_,fun b hb=>by have:=hI.xs b hb;show b<w.heap.size;omega,fun j hj hoj=>?_,fun b hb=>?_,hI.kJ hk⟩,⟨hk,by show _<=w.heap.size;omega,hos.os,hos.tape,hos.output,fun b _ hb=>hold b (fun e=>hb (e▸hI.rM hi hown)),fun b hb=> .inl hb,fun b hb=>?_,hrefs,fun _=> .inl ⟨rfl,rfl⟩,rfl⟩⟩
 ·rw[hlen] at hj
  by_cases hij:i=j
  ·subst hij;rw[hs];exact ho
  ·rw[hn j hij]
   refine(hI.obj j hj).eu hk hI.lay (fun j hj _=>hrefs j hj) (hI.eQ j hj) ⟨fun b h' hb=>⟨(hI.dv ⟨j,hj,h',hb.symm⟩).2,hold _ (fun e=>?_)⟩,fun _ _=>⟨Iff.rfl,fun _=>rfl⟩,hos,by show _<=w.heap.size;omega,fun _ _=>rfl⟩
   subst e
   rw[hI.eQ i hi hown] at hb
   exact hne j hj hij h' hb.symm
 ·rw[hlen] at hj hk'
  have hh: ∀k,k<C.st.length->cr ((C.dC i o w).ι k) (an (C.dC i o w).st k)=true->cr (C.ι k) (an C.st k)=true:=fun k hk h=>by
   by_cases e:i=k
   ·subst e;exact hown
   ·rwa [hn k e] at h
  exact hI.s8 j k hj hk' hjk (hh j hj hoj) (hh k hk' hok)
 ·rw[hlen] at hj
  by_cases e:i=j
  ·subst e;exact hI.eQ i hi hown
  ·rw[hn j e] at hoj
   exact hI.eQ j hj hoj
 ·have:=hI.mT b hb
  exact⟨by show b<w.heap.size;omega,this.2.1,by show C.cls b<w.heap.size;omega⟩
 ·obtain⟨j,hj,ho',hb'⟩:=hb
  rw[hlen] at hj
  refine .inl ⟨j,hj,?_,hb'⟩
  by_cases e:i=j
  ·subst e;exact hown
  ·rwa [hn j e] at ho'
theorem db.step{C C':Ctx}(hI:Inv C){s:S}{a:Act}(h:db C s a)(he:Ext C.st.length C C'):db C' {s with st:=C'.st} a:=
 ⟨rfl,h.bg.eu he.keeps hI.lay he.refs⟩
end Go.Dn
