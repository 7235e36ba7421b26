import Derived.Test.YthaiinlfnommnaaGreatDoorDnL
namespace Go.Dn
open Go
mutual
theorem rT{P:Program}: ∀(a:AV) (T:TypeId),bx P a T->refs a=[]
 | .lit _,_,_| .ad _ _,_,_| .jO _ _,_,_| .js _ _ _ _,_,_=>by simp[refs]
 | .agg l,T,h=>by simp only[bx] at h;obtain⟨fs,_,h2⟩:=h;simp only[refs];exact tr l _ h2
 | .iX U a,T,h=>by simp only[bx] at h;simp only[refs];exact rT a U h.2
 | .cy,_,h| .ba _,_,h| .ar _ _ _,_,h| .ptr _ _ _ _,_,h| .mp _,_,h| .cu _,_,h| .kg _ _,_,h| .bI _ _,_,h=>by simp[bx] at h
theorem tr{P:Program}: ∀(l:List AV) (fs:List Field),dz P l fs->cO l=[]
 |[],_,_=>by simp[cO]
 |_::_,[],h=>by simp[dz] at h
 |a::l,f::fs,h=>by simp only[dz] at h;simp[cO,rT a _ h.1,tr l fs h.2]
end
theorem Rel.pure{C C':Ctx}(hk:bO C C')(hl:eG C.P){a:AV}{T:TypeId}(ht:bx C.P a T){v:Value}(h:Rel C a v):Rel C' a v:=
 h.eo hk hl (fun i hi=>by rw[rT a T ht] at hi;simp at hi)
theorem cj.eo{C C':Ctx}(hk:bO C C')(hl:eG C.P){V:TypeId}: ∀{es:List (Value×AV)} {ents:List MapEntry},cj C V es ents->cj C' V es ents
 |[],[],_=>trivial
 |[],_::_,h=>by simp[cj] at h
 |_::_,[],h=>by simp[cj] at h
 |(k,a)::es,e::ents,h=>by
  simp only[cj] at h⊢
  exact⟨h.1,by rw[hk.P];exact h.2.1,h.2.2.1.pure hk hl h.2.1,h.2.2.2.eo hk hl⟩
mutual
theorem xe(ρ:Nat->Option Nat): ∀a:AV,cH a=true->(∀i,i∈refs a->∃j,ρ i=some j)->cH (ly ρ a)=true
 | .agg l,h,hr=>by simp only[ly,cH] at h⊢;exact u0 ρ l h (by simpa[refs] using hr)
 | .lit _,h,_=>by simpa[ly,cH] using h
 | .ad _ _,_,_| .jO _ _,_,_| .bI _ _,_,_| .iX _ _,_,_| .js _ _ _ _,_,_=>by simp[ly,cH]
 | .ar i _ _,_,hr| .ptr i _ _ _,_,hr| .mp i,_,hr| .cu i,_,hr| .kg i _,_,hr=>by
  obtain⟨j,hj⟩:=hr i (by simp[refs])
  simp[ly,hj,cH]
 | .cy,h,_| .ba _,h,_=>by simp[cH] at h
theorem u0(ρ:Nat->Option Nat): ∀l:List AV,dD l=true->(∀i,i∈cO l->∃j,ρ i=some j)->dD (fM ρ l)=true
 |[],_,_=>by simp[fM,dD]
 |a::l,h,hr=>by
  simp only[dD,aa2] at h
  simp only[fM,dD,aa2]
  exact⟨xe ρ a h.1 (fun i hi=>hr i (by simp[cO,hi])),u0 ρ l h.2 (fun i hi=>hr i (by simp[cO,hi]))⟩
end
theorem dA(g:G)(ρ:Nat->Option Nat)(o:Obj):cq g (eX ρ o)=cq g o:=by cases o<;>rfl
theorem lP.eo{C C':Ctx}{B:Nat}{E:TypeId}{k m:Nat}{l:List Value}{v:Value}(hs: ∀b,C.cls b=B->C'.cls b=C.cls b/\C'.qU b=C.qU b/\C'.w.heap[b]? =C.w.heap[b]?)(h:lP C B E k l m v):lP C' B E k l m v:=by
 obtain⟨h1,h2|⟨b,cap,c,h2,h3,h4,h5,h6,h7,h8,h9⟩⟩:=h
 ·exact⟨h1, .inl h2⟩
 ·obtain⟨g1,g2,g3⟩:=hs b h5
  exact⟨h1, .inr ⟨b,cap,c,h2,h3,h4,by rw[g1];exact h5,h6,by rw[g2];exact h7,by rw[g3];exact h8,h9⟩⟩
def zx:Obj->Bool
 | .ext _| .rows _ _ _ _=>true
 |_=>false
structure Still(C C':Ctx)(g:G)(o:Obj):Prop where
 Q6: ∀b,cq g o=true->C.cls b=g.block-> ¬ C'.X b/\C'.w.heap[b]? =C.w.heap[b]?
 cls:zx o=true->∀b,(C'.cls b=g.block↔C.cls b=g.block)/\(C.cls b=g.block->C'.qU b=C.qU b)
 os:dR C.w C'.w
 size:C.w.heap.size<=C'.w.heap.size
 lW: ∀t,o= .ext t->C'.lW=C.lW
theorem jS.move{C C':Ctx}(hk:bO C C')(hl:eG C.P)(ρ:Nat->Option Nat){g:G}{o:Obj}
  (hr: ∀i,i∈xH o->i<C.st.length->∃j,ρ i=some j/\b7 C C' i j) (hc:cq g o=true->C.cls g.block=g.block) (hS:Still C C' g o)
  (h:jS C g o):jS C' g (eX ρ o):=by
 have hX:cq g o=true-> ¬ C'.X g.block:=fun e=>(hS.Q6 _ e (hc e)).1
 have hh:cq g o=true->C'.w.heap[g.block]? =C.w.heap[g.block]? :=fun e=>(hS.Q6 _ e (hc e)).2
 have cell: ∀b,C'.w.heap[b]? =C.w.heap[b]? ->∀j,cellAt C'.w b j=cellAt C.w b j:=fun b hb j=>by simp only[cellAt,World.cell?,hb]
 cases o with
 |dead=>trivial
 |box T a=>
  obtain⟨h1,h2,c,e,h3,h4,h5⟩:=h
  have hb:=hh rfl
  refine⟨hX rfl,xe ρ a h2 (fun i hi=>?_),c,e,by rw[hb];exact h3,by rw[oB];exact h4,?_⟩
  ·obtain⟨j,hj,_⟩:=hr i hi (M7 h5 i hi);exact⟨j,hj⟩
  ·exact pw hk hl ρ a _ _ _ _ hr (fun j _=>cell _ hb _) h5
 | row T xs=>
  obtain⟨h1,h2|⟨h2,h3,c,h4,h5,h6,h7,h8⟩⟩:=h
  ·exact⟨by rw[hk.P];exact h1, .inl h2⟩
  ·have ho:cq g (.row T xs)=true:=by simp[cq,h2]
   have hb:=hh ho
   refine⟨by rw[hk.P];exact h1, .inr ⟨h2,hX ho,c,by rw[hb];exact h4,h5,h6,by rw[hk.P];exact h7,?_⟩⟩
   rw[hk.P]
   exact fw hk hl xs T _ _ _ _ h1 (fun j _=>cell _ hb _) h8
 | l4 T xs=>
  obtain⟨h1,h2|⟨h2,h3,h4⟩⟩:=h
  ·exact⟨by rw[hk.P];exact h1, .inl h2⟩
  ·refine⟨by rw[hk.P];exact h1, .inr ⟨h2,hk.X _ h3,?_⟩⟩
   rw[hk.P]
   exact fw hk hl xs T _ _ _ _ h1 (fun j _=>cell _ (hk.heap _ h3) _) h4
 |map K V es=>
  obtain⟨h1,entries,clock,h2,h3,h4⟩:=h
  exact⟨hX rfl,entries,clock,by rw[hh rfl];exact h2,h3.eo hk hl,by rw[hk.P];exact h4⟩
 |loop r=>
  obtain⟨h1,rec,h2,h3⟩:=h
  refine⟨hX rfl,rec,by rw[hh rfl];exact h2,⟨h3.state,h3.pending,h3.params,h3.assign,h3.body,h3.bk.move hk hl ρ hr⟩⟩
 |iter i n ks=>
  obtain⟨h1,hi,m,since,seen,stepped,h2,h3⟩:=h
  obtain⟨j,hj,hrf⟩:=hr i (by simp[xH]) hi
  simp only[eX,hj]
  exact⟨hX rfl,hrf.lt,m,since,seen,stepped,by rw[hh rfl];exact h2,h3.move hrf⟩
 |dw s p=>exact⟨hX rfl,by rw[hh rfl];exact h.2⟩
 |rows T E ls pd=>
  obtain⟨h1,h2,h3,h4,c,h5,h6,h7⟩:=h
  refine⟨hX rfl,by rw[hk.P];exact h2,by rw[hk.P];exact h3,by rw[hk.P];exact h4,c,by rw[hh rfl];exact h5,h6,fun k hk' hp=>?_⟩
  obtain⟨v,h8,h9⟩:=h7 k hk' hp
  exact⟨v,h8,h9.eo fun b hb=>⟨((hS.cls rfl b).1.2 hb).trans hb.symm,(hS.cls rfl b).2 hb,(hS.Q6 b rfl hb).2⟩⟩
 |fit K V ks vs met=>
  obtain⟨h1,m,since,seen,stepped,h2,h3⟩:=h
  refine⟨hX rfl,m,since,seen,stepped,by rw[hh rfl];exact h2,?_⟩
  rcases h3 with h3|⟨b,ents,clock,g1,g2,g3,g4,g5,g6,g7,g8⟩
  ·exact .inl h3
  ·exact .inr ⟨b,ents,clock,g1,hk.X b g2,by rw[hk.heap b g2];exact g3,by rw[hk.P];exact g4,g5,by rw[hk.P];exact g6,oe hk hl vs V _ g6 g7,g8⟩
 |ext t=>
  obtain⟨h1,h2,h3,h4⟩:=h
  refine⟨hX rfl,by have:=hS.size;omega,?_,by rw[hk.P,hS.lW t rfl];exact h4⟩
  rw[hS.lW t rfl,show(fun b=>C'.cls b=g.block)=(fun b=>C.cls b=g.block) from funext fun b=>propext (hS.cls rfl b).1]
  exact h4.still t _ C.X C'.X C.w C'.w h3 hk.X (fun b hb=>(hS.Q6 b rfl hb).1) (fun b hb=>hb.elim (fun h=>(hS.Q6 b rfl h).2) (hk.heap b)) hS.os hS.size
theorem Hg(o:Obj):eX some o=o:=by
 cases o<;>simp only[eX]
 ·rw[kL]
 ·rename_i r;rw[fg]
theorem jS.eo{C C':Ctx}(hk:bO C C')(hl:eG C.P){g:G}{o:Obj}(hr: ∀i,i<C.st.length->i∈xH o->b7 C C' i i)(hc:cq g o=true->C.cls g.block=g.block)(hS:Still C C' g o)
  (h:jS C g o):jS C' g o:=by
 have:=h.move hk hl some (fun i hi hlt=>⟨i,rfl,hr i hlt hi⟩) hc hS
 rwa [Hg] at this
theorem aV: ∀(l:List Obj) (i:Nat) (x:Obj),(db l i x).length=l.length
 |[],_,_=>rfl
 |_::_,0,_=>rfl
 |_::l,i+1,x=>by simp[db,aV l i x]
theorem bm: ∀(l:List Obj) (i:Nat) (x:Obj),i<l.length->ax (db l i x) i=x
 |[],_,_,h=>by simp at h
 |_::_,0,_,_=>rfl
 |_::l,i+1,x,h=>by simp only[db,ax];exact bm l i x (by simpa using h)
theorem bu: ∀(l:List Obj) (i j:Nat) (x:Obj),i≠j->ax (db l i x) j=ax l j
 |[],_,_,_,_=>rfl
 |_::_,0,j,_,h=>by cases j with|zero=>exact absurd rfl h|succ j=>rfl
 |_::l,i+1,j,x,h=>by
  cases j with
  |zero=>rfl
  |succ j=>simp only[db,ax];exact bu l i j x (by omega)
theorem dL: ∀(l m:List Obj) (i:Nat),i<l.length->ax (l++m) i=ax l i
 |[],_,_,h=>by simp at h
 |_::_,_,0,_=>rfl
 |_::l,m,i+1,h=>by simp only[List.cons_append,ax];exact dL l m i (by simpa using h)
theorem fT: ∀(l m:List Obj) (i:Nat),ax (l++m) (l.length+i)=ax m i
 |[],_,_=>by simp
 |_::l,m,i=>by
  simp only[List.cons_append,List.length_cons,show l.length+1+i=(l.length+i)+1 by omega,ax]
  exact fT l m i
theorem dZ: ∀(l:List Obj) (i:Nat),l.length<=i->ax l i= .dead
 |[],_,_=>rfl
 |_::l,0,h=>by simp at h
 |_::l,i+1,h=>by simp only[ax];exact dZ l i (by simpa using h)
def xl(C:Ctx)(g:G):Nat->G:=fun i=>if i=C.st.length then g else C.ι i
def Ctx.add(C:Ctx)(o:Obj)(g:G)(w:World):Ctx:={C with st:=C.st++[o],ι:=xl C g,w}
theorem cG{C:Ctx}{o:Obj}{g:G}{w:World}{i:Nat}(h:i<C.st.length):ax (C.add o g w).st i=ax C.st i/\(C.add o g w).ι i=C.ι i:=by
 refine⟨dL _ _ _ h,?_⟩
 simp only[Ctx.add,xl];rw[if_neg (by omega)]
theorem br{C:Ctx}{o:Obj}{g:G}{w:World}:ax (C.add o g w).st C.st.length=o/\(C.add o g w).ι C.st.length=g:=by
 refine⟨?_,?_⟩
 ·have:=fT C.st [o] 0
  simpa[Ctx.add,ax] using this
 ·simp only[Ctx.add,xl,if_true]
theorem dV{C C':Ctx}(hI:Inv C){i:Nat}(hi:i<C.st.length)(h:i<C'.st.length)(h1:ax C'.st i=ax C.st i)(h2:C'.ι i=C.ι i)
  (h3:cq (C.ι i) (ax C.st i)=true->∀b,C.cls b=(C.ι i).block->C'.cls b=C.cls b/\C'.qU b=C.qU b/\C'.w.heap[b]? =C.w.heap[b]?):b7 C C' i i:=by
 refine⟨h,fun T xs hx=>⟨xs,by rw[←h1];exact hx,h2,Nat.le_refl _⟩,fun T a hx=>⟨a,by rw[←h1];exact hx,h2⟩,fun K V es hx=>?_,fun r hx=>⟨r,by rw[←h1];exact hx,h2⟩,fun m n ks hx=>⟨m,ks,by rw[←h1];exact hx,h2⟩,fun t hx=>⟨t,by rw[←h1];exact hx,h2⟩,fun s p hx=>⟨p,by rw[←h1];exact hx,h2⟩,
  fun K V ks vs met hx=>⟨met,by rw[←h1];exact hx,h2⟩,fun T E ls pd hx=>?_⟩<;>rw[h1] at hx
 ·refine⟨es,hx,h2,fun ents clock hh=>⟨ents,clock,?_,dS.refl _ _⟩⟩
  have ho:cq (C.ι i) (ax C.st i)=true:=by rw[hx];rfl
  rw[(h3 ho _ (hI.fb i hi ho)).2.2];exact hh
 ·exact⟨ls,pd,hx,h2,rfl,fun k m v hv=>hv.eo (h3 (by rw[hx];rfl))⟩
theorem rH{C C':Ctx}{i:Nat}(h:i<C'.st.length)(h1:ax C'.st i= .dead):b7 C C' i i:=
 ⟨h,fun T xs hx=>(by rw[h1] at hx;simp[gP] at hx),fun T a hx=>(by rw[h1] at hx;cases hx),fun K V es hx=>(by rw[h1] at hx;cases hx),fun r hx=>(by rw[h1] at hx;cases hx),fun _ _ _ hx=>(by rw[h1] at hx;cases hx),fun _ hx=>(by rw[h1] at hx;cases hx),fun _ _ hx=>(by rw[h1] at hx;cases hx),fun _ _ _ _ _ hx=>(by rw[h1] at hx;cases hx),fun _ _ _ _ hx=>(by rw[h1] at hx;cases hx)⟩
theorem gz{C:Ctx}(hI:Inv C){o:Obj}{g:G}{w:World}(hg:g.block=C.w.heap.size)(hsz:C.w.heap.size<=w.heap.size)(hos:dR C.w w)(hold: ∀b,b<C.w.heap.size->w.heap[b]? =C.w.heap[b]?)
  (ho:jS (C.add o g w) g o):Inv (C.add o g w)/\Ext C.st.length C (C.add o g w):=by
 have hk:bO C (C.add o g w):=⟨rfl,fun _ h=>h,fun b hb=>hold b (hI.xs b hb)⟩
 have hlen:(C.add o g w).st.length=C.st.length+1:=by simp[Ctx.add]
 have hrefs: ∀i,i<C.st.length->b7 C (C.add o g w) i i:=fun i hi=>
  dV hI hi (by omega) (cG hi).1 (cG hi).2 (fun h b hb=>⟨rfl,rfl,hold _ (hI.dB ⟨i,hi,h,hb.symm⟩).1⟩)
 refine⟨⟨hI.lay,fun i hi=>?_,fun i j hi hj hij hoi hoj=>?_,fun b hb=>by have:=hI.xs b hb;show b<w.heap.size;omega,fun i hi hoi=>?_,fun b hb=>?_,hI.lM hk⟩,⟨hk,hsz,hos.os,hos.tape,hos.output,fun b hb _=>hold b hb,fun b hb=> .inl hb,fun b hb=>?_,hrefs,fun _=> .inl ⟨rfl,rfl⟩,rfl⟩⟩
 ·rcases Nat.lt_or_ge i C.st.length with h|h
  ·rw[(cG h).1,(cG h).2]
   exact(hI.obj i h).eo hk hI.lay (fun j hj _=>hrefs j hj) (hI.fb i h) ⟨fun b h' hb=>⟨(hI.dB ⟨i,h,h',hb.symm⟩).2,hold _ (hI.dB ⟨i,h,h',hb.symm⟩).1⟩,fun _ _=>⟨Iff.rfl,fun _=>rfl⟩,hos,hsz,fun _ _=>rfl⟩
  ·obtain rfl:i=C.st.length:=by omega
   rw[br.1,br.2];exact ho
 ·rcases Nat.lt_or_ge i C.st.length with h|h<;>rcases Nat.lt_or_ge j C.st.length with h'|h'
  ·rw[(cG h).1,(cG h).2] at hoi
   rw[(cG h').1,(cG h').2] at hoj
   rw[(cG h).2,(cG h').2]
   exact hI.sF i j h h' hij hoi hoj
  ·obtain rfl:j=C.st.length:=by omega
   rw[(cG h).1,(cG h).2] at hoi
   rw[(cG h).2,br.2,hg]
   have:=((hI.obj i h).lt hoi).1;omega
  ·obtain rfl:i=C.st.length:=by omega
   rw[(cG h').1,(cG h').2] at hoj
   rw[(cG h').2,br.2,hg]
   have:=((hI.obj j h').lt hoj).1;omega
  ·omega
 ·rcases Nat.lt_or_ge i C.st.length with h|h
  ·rw[(cG h).1,(cG h).2] at hoi
   rw[(cG h).2]
   exact hI.fb i h hoi
  ·obtain rfl:i=C.st.length:=by omega
   rw[br.2,hg]
   exact hI.fresh (Nat.le_refl _)
 ·have:=hI.oL b hb
  exact⟨by show b<w.heap.size;omega,this.2.1,by show C.cls b<w.heap.size;omega⟩
 ·obtain⟨i,hi,ho',hb'⟩:=hb
  rcases Nat.lt_or_ge i C.st.length with h|h
  ·rw[(cG h).1,(cG h).2] at ho'
   rw[(cG h).2] at hb'
   exact .inl ⟨i,h,ho',hb'⟩
  ·obtain rfl:i=C.st.length:=by omega
   rw[br.2,hg] at hb'
   refine .inr ?_
   by_cases e:C.cls b=b
   ·have hb2:C.w.heap.size=C.cls b:=hb'
    omega
   ·have:=(hI.oL b e).2.2
    have hb2:C.w.heap.size=C.cls b:=hb'
    omega
def Ctx.dE(C:Ctx)(i:Nat)(o:Obj)(w:World):Ctx:={C with st:=db C.st i o,w}
theorem gy{C:Ctx}(hI:Inv C){i:Nat}(hi:i<C.st.length){o:Obj}{w:World}(hown:cq (C.ι i) (ax C.st i)=true)(hsz:w.heap.size=C.w.heap.size)(hos:dR C.w w)
  (hold: ∀b,b≠(C.ι i).block->w.heap[b]? =C.w.heap[b]?) (hr:b7 C (C.dE i o w) i i) (ho:jS (C.dE i o w) (C.ι i) o):Inv (C.dE i o w)/\Ext C.st.length C (C.dE i o w):=by
 have hi':=(hI.obj i hi).lt hown
 have hk:bO C (C.dE i o w):=⟨rfl,fun _ h=>h,fun b hb=>hold b (fun e=>hi'.2 (e▸hb))⟩
 have hlen:(C.dE i o w).st.length=C.st.length:=aV _ _ _
 have hn: ∀j,i≠j->ax (C.dE i o w).st j=ax C.st j:=fun j h=>bu _ _ _ _ h
 have hs:ax (C.dE i o w).st i=o:=bm _ _ _ hi
 have hne: ∀j,j<C.st.length->i≠j->cq (C.ι j) (ax C.st j)=true->(C.ι j).block≠(C.ι i).block:=fun j hj hij h=>hI.sF j i hj hi (Ne.symm hij) h hown
 have hrefs: ∀j,j<C.st.length->b7 C (C.dE i o w) j j:=fun j hj=>by
  by_cases hij:i=j
  ·subst hij;exact hr
  ·exact dV hI hj (by omega) (hn j hij) rfl (fun h b hb=>⟨rfl,rfl,hold _ (fun e=>hne j hj hij h (by rw[←hb,e,hI.fb i hi hown]))⟩)
 refine⟨⟨hI.lay,fun j hj=>?_,fun j k hj hk' hjk hoj hok=>?_,fun b hb=>by have:=hI.xs b hb;show b<w.heap.size;omega,fun j hj hoj=>?_,fun b hb=>?_,hI.lM hk⟩,⟨hk,by show _<=w.heap.size;omega,hos.os,hos.tape,hos.output,fun b _ hb=>hold b (fun e=>hb (e▸hI.rr hi hown)),fun b hb=> .inl hb,fun b hb=>?_,hrefs,fun _=> .inl ⟨rfl,rfl⟩,rfl⟩⟩
 ·rw[hlen] at hj
  by_cases hij:i=j
  ·subst hij;rw[hs];exact ho
  ·rw[hn j hij]
   refine(hI.obj j hj).eo hk hI.lay (fun j hj _=>hrefs j hj) (hI.fb j hj) ⟨fun b h' hb=>⟨(hI.dB ⟨j,hj,h',hb.symm⟩).2,hold _ (fun e=>?_)⟩,fun _ _=>⟨Iff.rfl,fun _=>rfl⟩,hos,by show _<=w.heap.size;omega,fun _ _=>rfl⟩
   subst e
   rw[hI.fb i hi hown] at hb
   exact hne j hj hij h' hb.symm
 ·rw[hlen] at hj hk'
  have hh: ∀k,k<C.st.length->cq ((C.dE i o w).ι k) (ax (C.dE i o w).st k)=true->cq (C.ι k) (ax C.st k)=true:=fun k hk h=>by
   by_cases e:i=k
   ·subst e;exact hown
   ·rwa [hn k e] at h
  exact hI.sF j k hj hk' hjk (hh j hj hoj) (hh k hk' hok)
 ·rw[hlen] at hj
  by_cases e:i=j
  ·subst e;exact hI.fb i hi hown
  ·rw[hn j e] at hoj
   exact hI.fb j hj hoj
 ·have:=hI.oL b hb
  exact⟨by show b<w.heap.size;omega,this.2.1,by show C.cls b<w.heap.size;omega⟩
 ·obtain⟨j,hj,ho',hb'⟩:=hb
  rw[hlen] at hj
  refine .inl ⟨j,hj,?_,hb'⟩
  by_cases e:i=j
  ·subst e;exact hown
  ·rwa [hn j e] at ho'
theorem dm.step{C C':Ctx}(hI:Inv C){s:S}{a:Act}(h:dm C s a)(he:Ext C.st.length C C'):dm C' {s with st:=C'.st} a:=
 ⟨rfl,h.bk.eo he.keeps hI.lay he.refs⟩
end Go.Dn
