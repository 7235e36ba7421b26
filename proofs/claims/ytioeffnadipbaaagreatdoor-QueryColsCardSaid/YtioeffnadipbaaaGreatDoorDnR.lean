import Derived.Test.YtioeffnadipbaaaGreatDoorDnQ
namespace Go.Dn
open Go
def Ctx.app(C:Ctx)(i:Nat)(o:Obj)(g:G)(w:World):Ctx:={C with st:=c9 C.st i .dead++[o],ι:=wY C g,w}
theorem mc{C:Ctx}{i:Nat}{o:Obj}{g:G}{w:World}:(C.app i o g w).st.length=C.st.length+1:=by simp[Ctx.app,aU]
theorem jS{C:Ctx}{i:Nat}{o:Obj}{g:G}{w:World}:an (C.app i o g w).st C.st.length=o/\(C.app i o g w).ι C.st.length=g:=by
 refine⟨?_,?_⟩
 ·have:=fW (c9 C.st i .dead) [o] 0
  simpa[Ctx.app,an,aU] using this
 ·simp only[Ctx.app,wY,if_true]
theorem ui{C:Ctx}{i:Nat}{o:Obj}{g:G}{w:World}(hi:i<C.st.length):an (C.app i o g w).st i= .dead:=by grind [Ctx.app,dL,aU,bn]
theorem zu{C:Ctx}{i j:Nat}{o:Obj}{g:G}{w:World}(hj:j<C.st.length)(hij:i≠j):an (C.app i o g w).st j=an C.st j:=by grind [Ctx.app,dL,aU,bt]
theorem mj{C:Ctx}{i j:Nat}{o:Obj}{g:G}{w:World}(hj:j<C.st.length):(C.app i o g w).ι j=C.ι j:=by
 simp only[Ctx.app,wY];rw[if_neg (by omega)]
theorem lK{C:Ctx}(hI:Inv C){i:Nat}(hi:i<C.st.length){T:TypeId}{xs:List AV}(hrow:an C.st i= .row T xs){o:Obj}{g:G}{w:World}
  (hg:(g.block=(C.ι i).block/\(C.ι i).isNil=false)\/g.block=C.w.heap.size) (hold: ∀b,b<C.w.heap.size->b≠g.block->w.heap[b]? =C.w.heap[b]?):bH C (C.app i o g w):=by
 refine⟨rfl,fun _ h=>h,fun b hb=>hold b (hI.xs b hb) (fun e=>?_)⟩
 rcases hg with⟨hg,hn⟩|hg
 ·have:=((hI.obj i hi).lt (by rw[hrow];simp[cr,hn])).2
  exact this (hg▸e▸hb)
 ·have:=hI.xs b hb;omega
theorem IP{C:Ctx}(hI:Inv C){i:Nat}(hi:i<C.st.length){T:TypeId}{xs:List AV}(hrow:an C.st i= .row T xs){o:Obj}{g:G}{w:World}
  (hg:(g.block=(C.ι i).block/\(C.ι i).isNil=false)\/g.block=C.w.heap.size) (hold: ∀b,b<C.w.heap.size->b≠g.block->w.heap[b]? =C.w.heap[b]?) {j:Nat} (hj:j<C.st.length):bU C (C.app i o g w) j j:=by
 by_cases hij:i=j
 ·subst hij;exact rQ (by rw[mc];omega) (ui hi)
 ·refine dM hI hj (by rw[mc];omega) (zu hj hij) (mj hj) (fun h b hb=>⟨rfl,rfl,hold _ (hI.dv ⟨j,hj,h,hb.symm⟩).1 (fun e=>?_)⟩)
  rcases hg with⟨hg,hn⟩|hg
  ·have ho:cr (C.ι i) (an C.st i)=true:=by rw[hrow];simp[cr,hn]
   rw[e,hg,hI.eQ i hi ho] at hb
   exact hI.s8 j i hj hi (Ne.symm hij) h ho hb.symm
  ·have:=(hI.dv ⟨j,hj,h,hb.symm⟩).1;omega
theorem qk{C:Ctx}(hI:Inv C){i:Nat}(hi:i<C.st.length){T:TypeId}{xs:List AV}(hrow:an C.st i= .row T xs){o:Obj}{g:G}{w:World}
  (hg:(g.block=(C.ι i).block/\(C.ι i).isNil=false)\/g.block=C.w.heap.size) (hsz:C.w.heap.size<=w.heap.size) (hos:dN C.w w) (hold: ∀b,b<C.w.heap.size->b≠g.block->w.heap[b]? =C.w.heap[b]?)
  (ho:jF (C.app i o g w) g o):Inv (C.app i o g w)/\Ext C.st.length C (C.app i o g w):=by
 have hk:=lK hI hi hrow hg hold (o:=o)
 have hrefs: ∀j,j<C.st.length->bU C (C.app i o g w) j j:=fun j hj=>IP hI hi hrow hg hold hj
 have hne: ∀j,j<C.st.length->i≠j->cr (C.ι j) (an C.st j)=true->(C.ι j).block≠g.block:=fun j hj hij h e=>by
  rcases hg with⟨hg,hn⟩|hg
  ·exact hI.s8 j i hj hi (Ne.symm hij) h (by rw[hrow];simp[cr,hn]) (e.trans hg)
  ·have:=((hI.obj j hj).lt h).1;omega
 have hownd: ∀j,j<C.st.length->cr ((C.app i o g w).ι j) (an (C.app i o g w).st j)=true->i≠j/\cr (C.ι j) (an C.st j)=true:=fun j hj h=>by
  by_cases e:i=j
  ·subst e;rw[ui hi] at h;simp[cr] at h
  ·rw[zu hj e,mj hj] at h;exact⟨e,h⟩
 have hgown:g.block<C.w.heap.size->Own C g.block:=fun h=>by
  rcases hg with⟨hg,hn⟩|hg
  ·rw[hg];exact hI.rM hi (by rw[hrow];simp[cr,hn])
  ·omega
 have hgcls:C.cls g.block=g.block:=by
  rcases hg with⟨hg,hn⟩|hg
  ·rw[hg];exact hI.eQ i hi (by rw[hrow];simp[cr,hn])
  ·exact hI.fresh (by omega)
 refine⟨⟨hI.lay,fun j hj=>?_,fun j k hj hk' hjk hoj hok=>?_,fun b hb=>by have:=hI.xs b hb;show b<w.heap.size;omega,fun j hj hoj=>?_,fun b hb=>?_,hI.kJ hk⟩,⟨hk,hsz,hos.os,hos.tape,hos.output,fun b hb hnb=>hold b hb (fun e=>hnb (e▸hgown (e▸hb))),fun b hb=> .inl hb,fun b hb=>?_,hrefs,fun _=> .inl ⟨rfl,rfl⟩,rfl⟩⟩
 ·rw[mc] at hj
  rcases Nat.lt_or_ge j C.st.length with h|h
  ·by_cases hij:i=j
   ·subst hij;rw[ui hi];trivial
   ·rw[zu h hij,mj h]
    exact(hI.obj j h).eu hk hI.lay (fun j hj _=>hrefs j hj) (hI.eQ j h) ⟨fun b h' hb=>⟨(hI.dv ⟨j,h,h',hb.symm⟩).2,hold _ (hI.dv ⟨j,h,h',hb.symm⟩).1 (fun e=>hne j h hij h' (by rw[←hb,e,hgcls]))⟩,fun _ _=>⟨Iff.rfl,fun _=>rfl⟩,hos,hsz,fun _ _=>rfl⟩
  ·obtain rfl:j=C.st.length:=by omega
   rw[jS.1,jS.2];exact ho
 ·rw[mc] at hj hk'
  rcases Nat.lt_or_ge j C.st.length with h|h<;>rcases Nat.lt_or_ge k C.st.length with h'|h'
  ·rw[mj h,mj h']
   exact hI.s8 j k h h' hjk (hownd j h hoj).2 (hownd k h' hok).2
  ·obtain rfl:k=C.st.length:=by omega
   rw[mj h,jS.2]
   exact hne j h (hownd j h hoj).1 (hownd j h hoj).2
  ·obtain rfl:j=C.st.length:=by omega
   rw[mj h',jS.2]
   exact(hne k h' (hownd k h' hok).1 (hownd k h' hok).2).symm
  ·omega
 ·rw[mc] at hj
  rcases Nat.lt_or_ge j C.st.length with h|h
  ·rw[mj h];exact hI.eQ j h (hownd j h hoj).2
  ·obtain rfl:j=C.st.length:=by omega
   rw[jS.2];exact hgcls
 ·have:=hI.mT b hb
  exact⟨by show b<w.heap.size;omega,this.2.1,by show C.cls b<w.heap.size;omega⟩
 ·obtain⟨j,hj,ho',hb'⟩:=hb
  rw[mc] at hj
  rcases Nat.lt_or_ge j C.st.length with h|h
  ·rw[mj h] at hb'
   exact .inl ⟨j,h,(hownd j h ho').2,hb'⟩
  ·obtain rfl:j=C.st.length:=by omega
   rw[jS.2] at hb'
   have hb2:g.block=C.cls b:=hb'
   rcases Nat.lt_or_ge b C.w.heap.size with h'|h'
   ·refine .inl ?_
    rcases hg with⟨hg,hn⟩|hg
    ·exact⟨i,hi,by rw[hrow];simp[cr,hn],hg.symm.trans hb2⟩
    ·exfalso
     by_cases e:C.cls b=b
     ·omega
     ·have:=(hI.mT b e).2.2;omega
   ·exact .inr h'
theorem rR{C:Ctx}(hI:Inv C){Te:TypeId}{y:AV}{Ty:Option TypeId}{ys:List AV}{vy:Value}(h:oN C.st y=some (Ty,ys))(hT:mV Ty Te=true)(hr:Rel C y vy):
  ∃p c,vy= .slice p ys.length c/\bC C.P ys Te/\(ys≠[]->∃b off,p=some ⟨b,off,none⟩/\MR C ys (C.P.cellsOf Te) (cellAt C.w b) off):=by
 unfold oN at h
 split at h
 ·simp only[aa3,aa9] at h
  obtain⟨rfl,rfl⟩:=h
  have:=aH hr
  exact⟨none,0,this,trivial,fun hne=>absurd rfl hne⟩
 ·simp only[aa3,aa9] at h
  obtain⟨rfl,rfl⟩:=h
  simp only[mV,beq_iff_eq] at hT;subst hT
  obtain⟨hp,p,cap,rfl,_,hne⟩:=mm hr
  exact⟨p,cap,rfl,hp,fun h=>by obtain⟨b,off,h1,_,h2⟩:=hne h;exact⟨b,off,h1,h2⟩⟩
 ·rename_i i lo n
  split at h
  ·rename_i T xs hel
   simp only[aa3,aa9] at h
   obtain⟨rfl,rfl⟩:=h
   simp only[mV,beq_iff_eq] at hT;subst hT
   obtain⟨hi,hs⟩:=fy hr
   obtain⟨hlen,hv⟩:=hs.1 _ xs hel
   obtain⟨hp,hrow⟩:=qe hI hi hel
   have hl:((xs.drop lo).take n).length=n:=by simp;omega
   rw[hl]
   rcases hv with⟨_,rfl,rfl,rfl⟩|⟨hn,cap,q,rfl,hq,hc1,hc2⟩
   ·exact⟨none,0,rfl,by simp[bC],fun hne=>absurd (by simp) hne⟩
   ·refine⟨some q,cap,rfl,iW _ _ (j6 _ _ hp),fun hne=>?_⟩
    have hn0:0<n:=by rw[←hl];exact List.length_pos_iff.2 hne
    have hq':=hq.resolve_right (by omega)
    rcases hrow with⟨h0,_⟩|⟨_,_,hm⟩
    ·rw[hn] at h0;cases h0
    ·have h1:=qf _ n _ _ _ (tB xs lo _ _ _ hm)
     rw[Nat.zero_add] at h1
     exact⟨_,_,by rw[hq'],h1⟩
  ·split at h
   ·rename_i T E ls pd k hst
    simp only[aa3,aa9] at h
    obtain⟨rfl,rfl⟩:=h
    simp only[mV,beq_iff_eq] at hT;subst hT
    obtain⟨hi,hs⟩:=fy hr
    have hob:=hI.obj i hi
    rw[hst] at hob
    obtain⟨_,_,hE,hty,_⟩:=hob
    obtain⟨p,cap,rfl,h1,h2,h3,h4⟩:=Au hE (hty k) (hs.2 _ _ _ _ hst).2
    rw[h2]
    refine⟨p,cap,rfl,h3,fun hne=>?_⟩
    obtain⟨b,hb,_,hm⟩:=h4 (by intro e;subst e;simp at hne)
    exact⟨b,0,hb,hm⟩
   ·simp at h
 ·simp at h
theorem qn{C:Ctx}(hl:eI C.P){T:TypeId}: ∀(l:List AV) (s:Src) (o:Nat),bC C.P l T->MR C l (C.P.cellsOf T) s o->∀j,j<l.length*C.P.cellsOf T->∃v,s (o+j)=some v/\a9 v=true
 |[],_,_,_,_,j,hj=>by simp at hj
 | a::l,s,o,ht,h,j,hj=>by
  simp only[bC] at ht
  simp only[MR] at h
  have hw:=dn hl a T ht.1
  simp only[List.length_cons,Nat.add_mul,Nat.one_mul] at hj
  rcases Nat.lt_or_ge j (C.P.cellsOf T) with hlt|hge
  ·exact Cz a T s o ht.1 h.1 j (by omega)
  ·obtain⟨v,h1,h2⟩:=qn hl l s (o+C.P.cellsOf T) ht.2 h.2 (j - C.P.cellsOf T) (by omega)
   exact⟨v,by rw[←h1];congr 1;omega,h2⟩
def cV(s:Src)(o n:Nat):List Value:=(List.range n).map fun j=>(s (o+j)).getD undef
theorem gM(s:Src)(o n:Nat):(cV s o n).length=n:=by simp[cV]
theorem gD{s:Src}{o n:Nat}(h: ∀j,j<n->∃v,s (o+j)=some v/\a9 v=true){j:Nat}(hj:j<n):(cV s o n)[j]? =s (o+j):=by
 obtain⟨v,hv,_⟩:=h j hj
 simp[cV,hj,hv]
theorem Cq{s:Src}{o n:Nat}(h: ∀j,j<n->∃v,s (o+j)=some v/\a9 v=true): ∀u,u∈cV s o n->u.oneCell'=true:=by grind [cV,rH]
theorem xp{C:Ctx}: ∀(l m:List AV) (z:Nat) (s:Src) (o:Nat),MR C l z s o->MR C m z s (o+l.length*z)->MR C (l++m) z s o
 |[],m,z,s,o,_,h=>by simpa using h
 |a::l,m,z,s,o,h,hm=>by
  simp only[MR] at h
  simp only[List.cons_append,MR]
  refine⟨h.1,xp l m z s (o+z) h.2 ?_⟩
  rwa [show o+z+l.length*z=o+(a::l).length*z by simp only[List.length_cons,Nat.add_mul];omega]
theorem lU{P:Program}{T:TypeId}: ∀(l m:List AV),bC P l T->bC P m T->bC P (l++m) T
 |[],m,_,h=>by simpa using h
 |a::l,m,h,hm=>by simp only[bC] at h;simp only[List.cons_append,bC];exact⟨h.1,lU l m h.2 hm⟩
theorem fN{P:Program}{w:World}{t ty e:TypeId}{d:TypeDesc}(ht:P.underlying t=some (.slice e))(he:P.underlying e=some d)(base p:Option Addr)(n cap c:Nat)(h:n<=cap):
  (Builtin.append_ #[t,t] ty #[.slice base n cap, .slice p 0 c]).run P w= .ok (.slice base n cap) w:=by
 have hf: ∀z,(Builtin.firstCells z 0 (.slice p 0 c)).run P w= .ok #[] w:=by
  intro z;cases p<;>simp[Builtin.firstCells,loadCells,loadCellsFrom]
 simp only[Builtin.append_]
 simp[run_underlying ht,run_sizeOf he,Builtin.lenOf,h,hf]
 cases base<;>simp[storeCells]
end Go.Dn
