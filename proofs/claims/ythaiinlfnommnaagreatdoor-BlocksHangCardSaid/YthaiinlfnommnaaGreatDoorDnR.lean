import Derived.Test.YthaiinlfnommnaaGreatDoorDnQ
namespace Go.Dn
open Go
def Ctx.app(C:Ctx)(i:Nat)(o:Obj)(g:G)(w:World):Ctx:={C with st:=db C.st i .dead++[o],ι:=x6 C g,w}
theorem na{C:Ctx}{i:Nat}{o:Obj}{g:G}{w:World}:(C.app i o g w).st.length=C.st.length+1:=by simp[Ctx.app,aU]
theorem kj{C:Ctx}{i:Nat}{o:Obj}{g:G}{w:World}:aw (C.app i o g w).st C.st.length=o/\(C.app i o g w).ι C.st.length=g:=by
 refine⟨?_,?_⟩
 ·have:=gn (db C.st i .dead) [o] 0
  simpa[Ctx.app,aw,aU] using this
 ·simp only[Ctx.app,x6,if_true]
theorem vF{C:Ctx}{i:Nat}{o:Obj}{g:G}{w:World}(hi:i<C.st.length):aw (C.app i o g w).st i= .dead:=by
 simp only[Ctx.app]
 rw[dT _ _ _ (by rw[aU];exact hi),bp _ _ _ hi]
theorem Az{C:Ctx}{i j:Nat}{o:Obj}{g:G}{w:World}(hj:j<C.st.length)(hij:i≠j):aw (C.app i o g w).st j=aw C.st j:=by
 simp only[Ctx.app]
 rw[dT _ _ _ (by rw[aU];exact hj),bz _ _ _ _ hij]
theorem mH{C:Ctx}{i j:Nat}{o:Obj}{g:G}{w:World}(hj:j<C.st.length):(C.app i o g w).ι j=C.ι j:=by
 simp only[Ctx.app,x6];rw[if_neg (by omega)]
theorem lS{C:Ctx}(hI:Inv C){i:Nat}(hi:i<C.st.length){T:TypeId}{xs:List AV}(hrow:aw C.st i= .row T xs){o:Obj}{g:G}{w:World}
  (hg:(g.block=(C.ι i).block/\(C.ι i).isNil=false)\/g.block=C.w.heap.size) (hold: ∀b,b<C.w.heap.size->b≠g.block->w.heap[b]? =C.w.heap[b]?):bQ C (C.app i o g w):=by
 refine⟨rfl,fun _ h=>h,fun b hb=>hold b (hI.xs b hb) (fun e=>?_)⟩
 rcases hg with⟨hg,hn⟩|hg
 ·have:=((hI.obj i hi).lt (by rw[hrow];simp[cv,hn])).2
  exact this (hg▸e▸hb)
 ·have:=hI.xs b hb;omega
theorem Jz{C:Ctx}(hI:Inv C){i:Nat}(hi:i<C.st.length){T:TypeId}{xs:List AV}(hrow:aw C.st i= .row T xs){o:Obj}{g:G}{w:World}
  (hg:(g.block=(C.ι i).block/\(C.ι i).isNil=false)\/g.block=C.w.heap.size) (hold: ∀b,b<C.w.heap.size->b≠g.block->w.heap[b]? =C.w.heap[b]?) {j:Nat} (hj:j<C.st.length):cd C (C.app i o g w) j j:=by
 by_cases hij:i=j
 ·subst hij;exact sC (by rw[na];omega) (vF hi)
 ·refine ee hI hj (by rw[na];omega) (Az hj hij) (mH hj) (fun h b hb=>⟨rfl,rfl,hold _ (hI.dJ ⟨j,hj,h,hb.symm⟩).1 (fun e=>?_)⟩)
  rcases hg with⟨hg,hn⟩|hg
  ·have ho:cv (C.ι i) (aw C.st i)=true:=by rw[hrow];simp[cv,hn]
   rw[e,hg,hI.fm i hi ho] at hb
   exact hI.rH j i hj hi (Ne.symm hij) h ho hb.symm
  ·have:=(hI.dJ ⟨j,hj,h,hb.symm⟩).1;omega
theorem qW{C:Ctx}(hI:Inv C){i:Nat}(hi:i<C.st.length){T:TypeId}{xs:List AV}(hrow:aw C.st i= .row T xs){o:Obj}{g:G}{w:World}
  (hg:(g.block=(C.ι i).block/\(C.ι i).isNil=false)\/g.block=C.w.heap.size) (hsz:C.w.heap.size<=w.heap.size) (hos:dY C.w w) (hold: ∀b,b<C.w.heap.size->b≠g.block->w.heap[b]? =C.w.heap[b]?)
  (ho:j4 (C.app i o g w) g o):Inv (C.app i o g w)/\Ext C.st.length C (C.app i o g w):=by
 have hk:=lS hI hi hrow hg hold (o:=o)
 have hrefs: ∀j,j<C.st.length->cd C (C.app i o g w) j j:=fun j hj=>Jz hI hi hrow hg hold hj
 have hne: ∀j,j<C.st.length->i≠j->cv (C.ι j) (aw C.st j)=true->(C.ι j).block≠g.block:=fun j hj hij h e=>by
  rcases hg with⟨hg,hn⟩|hg
  ·exact hI.rH j i hj hi (Ne.symm hij) h (by rw[hrow];simp[cv,hn]) (e.trans hg)
  ·have:=((hI.obj j hj).lt h).1;omega
 have hownd: ∀j,j<C.st.length->cv ((C.app i o g w).ι j) (aw (C.app i o g w).st j)=true->i≠j/\cv (C.ι j) (aw C.st j)=true:=fun j hj h=>by
  by_cases e:i=j
  ·subst e;rw[vF hi] at h;simp[cv] at h
  ·rw[Az hj e,mH hj] at h;exact⟨e,h⟩
 have hgown:g.block<C.w.heap.size->Own C g.block:=fun h=>by
  rcases hg with⟨hg,hn⟩|hg
  ·rw[hg];exact hI.rY hi (by rw[hrow];simp[cv,hn])
  ·omega
 have hgcls:C.cls g.block=g.block:=by
  rcases hg with⟨hg,hn⟩|hg
  ·rw[hg];exact hI.fm i hi (by rw[hrow];simp[cv,hn])
  ·exact hI.fresh (by omega)
 refine⟨⟨hI.lay,fun j hj=>?_,fun j k hj hk' hjk hoj hok=>?_,fun b hb=>by have:=hI.xs b hb;show b<w.heap.size;omega,fun j hj hoj=>?_,fun b hb=>?_,hI.mm hk⟩,⟨hk,hsz,hos.os,hos.tape,hos.output,fun b hb hnb=>hold b hb (fun e=>hnb (e▸hgown (e▸hb))),fun b hb=> .inl hb,fun b hb=>?_,hrefs,fun _=> .inl ⟨rfl,rfl⟩,rfl⟩⟩
 ·rw[na] at hj
  rcases Nat.lt_or_ge j C.st.length with h|h
  ·by_cases hij:i=j
   ·subst hij;rw[vF hi];trivial
   ·rw[Az h hij,mH h]
    exact(hI.obj j h).keep hk hI.lay (fun j hj _=>hrefs j hj) (hI.fm j h) ⟨fun b h' hb=>⟨(hI.dJ ⟨j,h,h',hb.symm⟩).2,hold _ (hI.dJ ⟨j,h,h',hb.symm⟩).1 (fun e=>hne j h hij h' (by rw[←hb,e,hgcls]))⟩,fun _ _=>⟨Iff.rfl,fun _=>rfl⟩,hos,hsz,fun _ _=>rfl⟩
  ·obtain rfl:j=C.st.length:=by omega
   rw[kj.1,kj.2];exact ho
 ·rw[na] at hj hk'
  rcases Nat.lt_or_ge j C.st.length with h|h<;>rcases Nat.lt_or_ge k C.st.length with h'|h'
  ·rw[mH h,mH h']
   exact hI.rH j k h h' hjk (hownd j h hoj).2 (hownd k h' hok).2
  ·obtain rfl:k=C.st.length:=by omega
   rw[mH h,kj.2]
   exact hne j h (hownd j h hoj).1 (hownd j h hoj).2
  ·obtain rfl:j=C.st.length:=by omega
   rw[mH h',kj.2]
   exact(hne k h' (hownd k h' hok).1 (hownd k h' hok).2).symm
  ·omega
 ·rw[na] at hj
  rcases Nat.lt_or_ge j C.st.length with h|h
  ·rw[mH h];exact hI.fm j h (hownd j h hoj).2
  ·obtain rfl:j=C.st.length:=by omega
   rw[kj.2];exact hgcls
 ·have:=hI.pg b hb
  exact⟨by show b<w.heap.size;omega,this.2.1,by show C.cls b<w.heap.size;omega⟩
 ·obtain⟨j,hj,ho',hb'⟩:=hb
  rw[na] at hj
  rcases Nat.lt_or_ge j C.st.length with h|h
  ·rw[mH h] at hb'
   exact .inl ⟨j,h,(hownd j h ho').2,hb'⟩
  ·obtain rfl:j=C.st.length:=by omega
   rw[kj.2] at hb'
   have hb2:g.block=C.cls b:=hb'
   rcases Nat.lt_or_ge b C.w.heap.size with h'|h'
   ·refine .inl ?_
    rcases hg with⟨hg,hn⟩|hg
    ·exact⟨i,hi,by rw[hrow];simp[cv,hn],hg.symm.trans hb2⟩
    ·exfalso
     by_cases e:C.cls b=b
     ·omega
     ·have:=(hI.pg b e).2.2;omega
   ·exact .inr h'
theorem rQ{C:Ctx}(hI:Inv C){Te:TypeId}{y:AV}{Ty:Option TypeId}{ys:List AV}{vy:Value}(h:o9 C.st y=some (Ty,ys))(hT:ov Ty Te=true)(hr:Rel C y vy):
  ∃p c,vy= .slice p ys.length c/\bI C.P ys Te/\(ys≠[]->∃b off,p=some ⟨b,off,none⟩/\MR C ys (C.P.cellsOf Te) (cellAt C.w b) off):=by
 unfold o9 at h
 split at h
 ·simp only[aa4,ab0] at h
  obtain⟨rfl,rfl⟩:=h
  have:=aQ hr
  exact⟨none,0,this,trivial,fun hne=>absurd rfl hne⟩
 ·simp only[aa4,ab0] at h
  obtain⟨rfl,rfl⟩:=h
  simp only[ov,beq_iff_eq] at hT;subst hT
  obtain⟨hp,p,cap,rfl,_,hne⟩:=q9 hr
  exact⟨p,cap,rfl,hp,fun h=>by obtain⟨b,off,h1,_,h2⟩:=hne h;exact⟨b,off,h1,h2⟩⟩
 ·rename_i i lo n
  split at h
  ·rename_i T xs hel
   simp only[aa4,ab0] at h
   obtain⟨rfl,rfl⟩:=h
   simp only[ov,beq_iff_eq] at hT;subst hT
   obtain⟨hi,hs⟩:=gL hr
   obtain⟨hlen,hv⟩:=hs.1 _ xs hel
   obtain⟨hp,hrow⟩:=vD hI hi hel
   have hl:((xs.drop lo).take n).length=n:=by simp;omega
   rw[hl]
   rcases hv with⟨_,rfl,rfl,rfl⟩|⟨hn,cap,q,rfl,hq,hc1,hc2⟩
   ·exact⟨none,0,rfl,by simp[bI],fun hne=>absurd (by simp) hne⟩
   ·refine⟨some q,cap,rfl,jz _ _ (kZ _ _ hp),fun hne=>?_⟩
    have hn0:0<n:=by rw[←hl];exact List.length_pos_iff.2 hne
    have hq':=hq.resolve_right (by omega)
    rcases hrow with⟨h0,_⟩|⟨_,_,hm⟩
    ·rw[hn] at h0;cases h0
    ·have h1:=qG _ n _ _ _ (tP xs lo _ _ _ hm)
     rw[Nat.zero_add] at h1
     exact⟨_,_,by rw[hq'],h1⟩
  ·split at h
   ·rename_i T E ls pd k hst
    simp only[aa4,ab0] at h
    obtain⟨rfl,rfl⟩:=h
    simp only[ov,beq_iff_eq] at hT;subst hT
    obtain⟨hi,hs⟩:=gL hr
    have hob:=hI.obj i hi
    rw[hst] at hob
    obtain⟨_,_,hE,hty,_⟩:=hob
    obtain⟨p,cap,rfl,h1,h2,h3,h4⟩:=C8 hE (hty k) (hs.2 _ _ _ _ hst).2
    rw[h2]
    refine⟨p,cap,rfl,h3,fun hne=>?_⟩
    obtain⟨b,hb,_,hm⟩:=h4 (by intro e;subst e;simp at hne)
    exact⟨b,0,hb,hm⟩
   ·simp at h
 ·simp at h
theorem q8{C:Ctx}(hl:eR C.P){T:TypeId}: ∀(l:List AV) (s:Src) (o:Nat),bI C.P l T->MR C l (C.P.cellsOf T) s o->∀j,j<l.length*C.P.cellsOf T->∃v,s (o+j)=some v/\bg v=true
 |[],_,_,_,_,j,hj=>by simp at hj
 | a::l,s,o,ht,h,j,hj=>by
  simp only[bI] at ht
  simp only[MR] at h
  have hw:=dE hl a T ht.1
  simp only[List.length_cons,Nat.add_mul,Nat.one_mul] at hj
  rcases Nat.lt_or_ge j (C.P.cellsOf T) with hlt|hge
  ·exact Du a T s o ht.1 h.1 j (by omega)
  ·obtain⟨v,h1,h2⟩:=q8 hl l s (o+C.P.cellsOf T) ht.2 h.2 (j - C.P.cellsOf T) (by omega)
   exact⟨v,by rw[←h1];congr 1;omega,h2⟩
def cV(s:Src)(o n:Nat):List Value:=(List.range n).map fun j=>(s (o+j)).getD undef
theorem im(s:Src)(o n:Nat):(cV s o n).length=n:=by simp[cV]
theorem gO{s:Src}{o n:Nat}(h: ∀j,j<n->∃v,s (o+j)=some v/\bg v=true){j:Nat}(hj:j<n):(cV s o n)[j]? =s (o+j):=by
 obtain⟨v,hv,_⟩:=h j hj
 simp[cV,hj,hv]
theorem Ej{s:Src}{o n:Nat}(h: ∀j,j<n->∃v,s (o+j)=some v/\bg v=true): ∀u,u∈cV s o n->u.oneCell'=true:=by
 intro u hu
 simp only[cV,List.mem_map,List.mem_range] at hu
 obtain⟨j,hj,rfl⟩:=hu
 obtain⟨v,hv,h1⟩:=h j hj
 rw[hv];rw[r6] at h1;exact h1
theorem xV{C:Ctx}: ∀(l m:List AV) (z:Nat) (s:Src) (o:Nat),MR C l z s o->MR C m z s (o+l.length*z)->MR C (l++m) z s o
 |[],m,z,s,o,_,h=>by simpa using h
 |a::l,m,z,s,o,h,hm=>by
  simp only[MR] at h
  simp only[List.cons_append,MR]
  refine⟨h.1,xV l m z s (o+z) h.2 ?_⟩
  rwa [show o+z+l.length*z=o+(a::l).length*z by simp only[List.length_cons,Nat.add_mul];omega]
theorem nd{P:Program}{T:TypeId}: ∀(l m:List AV),bI P l T->bI P m T->bI P (l++m) T
 |[],m,_,h=>by simpa using h
 |a::l,m,h,hm=>by simp only[bI] at h;simp only[List.cons_append,bI];exact⟨h.1,nd l m h.2 hm⟩
theorem fY{P:Program}{w:World}{t ty e:TypeId}{d:TypeDesc}(ht:P.underlying t=some (.slice e))(he:P.underlying e=some d)(base p:Option Addr)(n cap c:Nat)(h:n<=cap):
  (Builtin.append_ #[t,t] ty #[.slice base n cap, .slice p 0 c]).run P w= .ok (.slice base n cap) w:=by
 have hf: ∀z,(Builtin.firstCells z 0 (.slice p 0 c)).run P w= .ok #[] w:=by
  intro z;cases p<;>simp[Builtin.firstCells,loadCells,loadCellsFrom]
 simp only[Builtin.append_]
 simp[run_underlying ht,run_sizeOf he,Builtin.lenOf,h,hf]
 cases base<;>simp[storeCells]
end Go.Dn
