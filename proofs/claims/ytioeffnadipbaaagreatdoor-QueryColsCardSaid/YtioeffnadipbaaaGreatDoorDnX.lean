import Derived.Test.YtioeffnadipbaaaGreatDoorDnW
namespace Go.Dn
open Go
theorem qN(ρ:Nat->Option Nat): ∀(ids:List Nat) (st sub:List Obj),(e9.go ρ st ids sub).length=st.length+(sub.length - ids.length)
 |[],st,sub=>by simp[e9.go,iz]
 |i::ids,st,[]=>by simp[e9.go]
 |i::ids,st,o::sub=>by simp only[e9.go];rw[qN ρ ids,aU];simp
theorem xZ(ρ:Nat->Option Nat): ∀(ids:List Nat) (st sub:List Obj) (j:Nat),ids.length<=j->ids.length<=sub.length->an (e9.go ρ st ids sub) (st.length+(j - ids.length))=eY ρ (an sub j)
 |[],st,sub,j,_,_=>by simp only[e9.go,List.length_nil,Nat.sub_zero];rw[fW,oj]
 |i::ids,st,[],j,_,h=>by simp at h
 | i::ids,st,o::sub,j,h,h'=>by
  simp only[e9.go]
  have:=xZ ρ ids (c9 st i (eY ρ o)) sub (j - 1) (by simp at h;omega) (by simpa using h')
  rw[aU] at this
  have e1:an (o::sub) j=an sub (j - 1):=by
   cases j with
   |zero=>simp at h
   |succ j=>rfl
  rw[e1,←this]
  congr 1
  simp at h⊢;omega
theorem r5(ρ:Nat->Option Nat): ∀(ids:List Nat) (st sub:List Obj) (i:Nat),i∉ids->i<st.length->an (e9.go ρ st ids sub) i=an st i
 |[],st,sub,i,_,h=>by simp only[e9.go];exact dL _ _ _ h
 |j::ids,st,[],i,_,_=>rfl
 |j::ids,st,o::sub,i,hi,h=>by
  simp only[ac1,not_or] at hi
  simp only[e9.go]
  rw[r5 ρ ids _ sub i hi.2 (by rw[aU];exact h),bt _ _ _ _ (fun e=>hi.1 e.symm)]
theorem Am(ρ:Nat->Option Nat): ∀(ids:List Nat) (st sub:List Obj) (k i:Nat),ids.Nodup->ids[k]? =some i->i<st.length->ids.length<=sub.length->an (e9.go ρ st ids sub) i=eY ρ (an sub k)
 |[],st,sub,k,i,_,h,_,_=>by simp at h
 |j::ids,st,[],k,i,_,_,_,h=>by simp at h
 |j::ids,st,o::sub,0,i,hn,h,hi,hl=>by
  simp at h;subst h
  simp only[List.nodup_cons] at hn
  simp only[e9.go,an]
  rw[r5 ρ ids _ sub j hn.1 (by rw[aU];exact hi),bn _ _ _ hi]
 |j::ids,st,o::sub,k+1,i,hn,h,hi,hl=>by
  simp only[List.nodup_cons] at hn
  simp only[e9.go,an]
  exact Am ρ ids _ sub k i hn.2 (by simpa using h) (by rw[aU];exact hi) (by simpa using hl)
theorem Ef: ∀(ids:List Nat) (k i:Nat),ids[k]? =some i->iO.idN ids k=some i
 |[],_,_,h=>by simp at h
 |a::ids,0,i,h=>by simpa[iO.idN] using h
 |a::ids,k+1,i,h=>by simp only[iO.idN];exact Ef ids k i (by simpa using h)
theorem HE{ids:List Nat}{n k i:Nat}(h:ids[k]? =some i):iO ids n k=some i:=by
 simp[iO,Ef ids k i h]
theorem FU: ∀(ids:List Nat) (k:Nat),ids.length<=k->iO.idN ids k=none
 |[],_,_=>rfl
 |a::ids,0,h=>by simp at h
 |a::ids,k+1,h=>by simp only[iO.idN];exact FU ids k (by simpa using h)
theorem Gy{ids:List Nat}{n j:Nat}(h:ids.length<=j):iO ids n j=some (n+(j - ids.length)):=by
 simp[iO,FU ids j h]
def Ctx.merge(C C1:Ctx)(ids:List Nat):Ctx:=
 {P:=C.P,X:=C1.X,w:=C1.w,cls:=C1.cls,rk:=C1.rk,lr:=C1.lr,st:=e9 C.st ids (iO ids C.st.length) C1.st,
  ι:=fun i=>if C.st.length<=i then C1.ι (ids.length+(i - C.st.length)) else match jt i ids 0 with|some k=>C1.ι k|none=>C.ι i}
theorem Gq{C C1:Ctx}(hI:Inv C){roots ids:List Nat}(hok:oV 0 C.st roots ids=true)(hI1:Inv C1)(he:Ext ids.length (C.by ids) C1):
  Inv (C.merge C1 ids)/\Ext C.st.length C (C.merge C1 ids)/\(∀j,j<C1.st.length->∃i,iO ids C.st.length j=some i/\bU C1 (C.merge C1 ids) j i)/\bH C1 (C.merge C1 ids):=by
 obtain⟨hIb,heb,_⟩:=tJ hI hok
 simp only[oV,aa1] at hok
 obtain⟨⟨⟨⟨h1,h2⟩,h3⟩,h4⟩,h5⟩:=hok
 have hnd:=kU h1
 have hlt: ∀i,i∈ids->i<C.st.length:=mC h2
 have hP1:C1.P=C.P:=he.keeps.P
 have hlen1:ids.length<=C1.st.length:=by
  rcases Nat.eq_zero_or_pos ids.length with h|h
  ·omega
  ·have:=(he.refs (ids.length - 1) (by omega)).lt;omega
 have hml:(C.merge C1 ids).st.length=C.st.length+(C1.st.length - ids.length):=qN _ _ _ _
 have hidx: ∀k i,ids[k]? =some i->jt i ids 0=some k:=fun k i h=>by
  obtain⟨j,hj⟩:=nV (ids:=ids) 0 (List.mem_iff_getElem?.2 ⟨k,h⟩)
  obtain⟨k',e1,e2⟩:=qS hj
  obtain rfl:j=k':=by omega
  obtain⟨_,e3⟩:=List.getElem?_eq_some_iff.1 h
  obtain⟨_,e4⟩:=List.getElem?_eq_some_iff.1 e2
  rw[hj];congr 1
  exact(List.getElem_inj hnd).1 (e4.trans e3.symm)
 have hout: ∀i,i∉ids->jt i ids 0=none:=fun i h=>by
  cases hx:jt i ids 0 with
  |none=>rfl
  |some j=>obtain⟨k,_,e⟩:=qS hx;exact absurd (List.mem_iff_getElem?.2 ⟨k,e⟩) h
 have atId: ∀k i,ids[k]? =some i->an (C.merge C1 ids).st i=eY (iO ids C.st.length) (an C1.st k)/\(C.merge C1 ids).ι i=C1.ι k:=fun k i h=>by
  have hi:=hlt i (List.mem_iff_getElem?.2 ⟨k,h⟩)
  refine⟨Am _ _ _ _ k i hnd h hi hlen1,?_⟩
  simp only[Ctx.merge]
  rw[if_neg (by omega),hidx k i h]
 have atNew: ∀j,ids.length<=j->an (C.merge C1 ids).st (C.st.length+(j - ids.length))=eY (iO ids C.st.length) (an C1.st j)/\(C.merge C1 ids).ι (C.st.length+(j - ids.length))=C1.ι j:=fun j h=>by
  refine⟨xZ _ _ _ _ j h hlen1,?_⟩
  simp only[Ctx.merge]
  rw[if_pos (by omega)]
  congr 1;omega
 have atOld: ∀i,i<C.st.length->i∉ids->an (C.merge C1 ids).st i=an C.st i/\(C.merge C1 ids).ι i=C.ι i:=fun i hi h=>by
  refine⟨r5 _ _ _ _ i h hi,?_⟩
  simp only[Ctx.merge]
  rw[if_neg (by omega),hout i h]
 have hkm:bH C1 (C.merge C1 ids):=⟨hP1.symm,fun _ h=>h,fun _ _=>rfl⟩
 have toC: ∀(i j:Nat),i<(C.merge C1 ids).st.length->an (C.merge C1 ids).st i=eY (iO ids C.st.length) (an C1.st j)->(C.merge C1 ids).ι i=C1.ι j->bU C1 (C.merge C1 ids) j i:=fun i j hi g1 g2=>by
  refine⟨hi,fun T xs hx=>?_,fun T a hx=>?_,fun K V es hx=>?_,fun r hx=>?_,fun m n ks hx=>?_,fun t hx=>?_,fun s p hx=>?_,fun K V ks vs met hx=>?_,fun T E ls pd hx=>?_⟩
  ·rw[g1,zF] at hx;exact⟨xs,hx,g2,Nat.le_refl _⟩
  ·rw[g1] at hx
   cases ho:an C1.st j<;>rw[ho] at hx<;>simp[eY] at hx
   obtain⟨rfl,_⟩:=hx
   exact⟨_,rfl,g2⟩
  ·rw[g1] at hx
   cases ho:an C1.st j<;>rw[ho] at hx<;>simp[eY] at hx
   obtain⟨rfl,rfl,rfl⟩:=hx
   exact⟨_,rfl,g2,fun ents clock hh=>⟨ents,clock,hh,dW.refl _ _⟩⟩
  ·rw[g1] at hx
   cases ho:an C1.st j<;>rw[ho] at hx<;>simp[eY] at hx
   exact⟨_,rfl,g2⟩
  ·rw[g1] at hx
   cases ho:an C1.st j<;>rw[ho] at hx<;>simp[eY] at hx
   obtain⟨_,rfl,_⟩:=hx
   exact⟨_,_,rfl,g2⟩
  ·rw[g1] at hx
   cases ho:an C1.st j<;>rw[ho] at hx<;>simp[eY] at hx
   exact⟨_,rfl,g2⟩
  ·rw[g1] at hx
   cases ho:an C1.st j<;>rw[ho] at hx<;>simp[eY] at hx
   obtain⟨rfl,_⟩:=hx
   exact⟨_,rfl,g2⟩
  ·rw[g1] at hx
   cases ho:an C1.st j<;>rw[ho] at hx<;>simp[eY] at hx
   obtain⟨rfl,rfl,rfl,rfl,_⟩:=hx
   exact⟨_,rfl,g2⟩
  ·rw[g1] at hx
   cases ho:an C1.st j<;>rw[ho] at hx<;>simp[eY] at hx
   obtain⟨rfl,rfl,rfl,_⟩:=hx
   exact⟨_,_,rfl,g2,rfl,fun _ _ _ h=>h⟩
 have hback: ∀j,j<C1.st.length->∃i,iO ids C.st.length j=some i/\bU C1 (C.merge C1 ids) j i:=fun j hj=>by
  rcases Nat.lt_or_ge j ids.length with h|h
  ·have hk:ids[j]? =some ids[j]:=by simp[h]
   have hi:=hlt _ (List.getElem_mem h)
   exact⟨ids[j],HE hk,toC _ _ (by omega) (atId j _ hk).1 (atId j _ hk).2⟩
  ·exact⟨_,Gy h,toC _ _ (by omega) (atNew j h).1 (atNew j h).2⟩
 have ownOld: ∀b,Own (C.by ids) b->Own C b:=fun b hb=>by
  rcases heb.fV b hb with h|h
  ·exact h
  ·have:=(hIb.dv hb).1;exact absurd this (by show ¬ b<C.w.heap.size;omega)
 have own1: ∀j,j<C1.st.length->cr (C1.ι j) (an C1.st j)=true->(∃k i,ids[k]? =some i/\cr (C.ι i) (an C.st i)=true/\(C.ι i).block=(C1.ι j).block)\/C.w.heap.size<=(C1.ι j).block:=fun j hj ho=>by
  have hself:=hI1.eQ j hj ho
  by_cases hlt1:(C1.ι j).block<C.w.heap.size
  ·rcases he.fV _ (hI1.rM hj ho) with⟨k,hk,ho',hb'⟩|h
   ·rw[mZ] at hk
    have hki:ids[k]? =some ids[k]:=by simp[hk]
    obtain⟨g1,g2⟩:=mb (C:=C) hki
    rw[g1,g2,dB] at ho'
    rw[g2] at hb'
    refine .inl ⟨k,_,hki,ho',?_⟩
    rcases he.cls (C1.ι j).block with⟨h,_⟩|⟨h,_⟩
    ·rw[hb',←h,hself]
    ·exact absurd hlt1 (by have h2:C.w.heap.size<=(C1.ι j).block:=h;omega)
   ·exact .inr h
  ·exact .inr (by omega)
 have frame: ∀b,b<C.w.heap.size->(∀k i,ids[k]? =some i->cr (C.ι i) (an C.st i)=true->(C.ι i).block≠C.cls b)->C1.w.heap[b]? =C.w.heap[b]? :=fun b hb hn=>he.frame b hb (fun ho=>by
  obtain⟨k,hk,ho',hb'⟩:=ho
  rw[mZ] at hk
  have hki:ids[k]? =some ids[k]:=by simp[hk]
  obtain⟨g1,g2⟩:=mb (C:=C) hki
  rw[g1,g2,dB] at ho'
  rw[g2] at hb'
  exact hn k _ hki ho' hb')
 have frameAll: ∀i b,i<C.st.length->i∉ids->cr (C.ι i) (an C.st i)=true->C.cls b=(C.ι i).block->C1.w.heap[b]? =C.w.heap[b]? :=fun i b hi hn ho hb=>
  frame _ (hI.dv ⟨i,hi,ho,hb.symm⟩).1 (fun k j hk hoj e=>hI.s8 j i (hlt j (List.mem_iff_getElem?.2 ⟨k,hk⟩)) hi (fun e'=>hn (e'▸List.mem_iff_getElem?.2 ⟨k,hk⟩)) hoj ho (e.trans hb))
 have frameOld: ∀i,i<C.st.length->i∉ids->cr (C.ι i) (an C.st i)=true->C1.w.heap[(C.ι i).block]? =C.w.heap[(C.ι i).block]? :=fun i hi hn ho=>
  frameAll i _ hi hn ho (hI.eQ i hi ho)
 have hk0:bH C (C.merge C1 ids):=⟨rfl,fun b hb=>he.keeps.X b hb,fun b hb=>he.keeps.heap b hb⟩
 have notBy: ∀i,i<C.st.length->i∉ids->cr (C.ι i) (an C.st i)=true-> ¬ ∃k,k<(C.by ids).st.length/\cr ((C.by ids).ι k) (an (C.by ids).st k)=true/\((C.by ids).ι k).block=(C.ι i).block:=fun i hi hn ho ⟨k,hk,ho',hb'⟩=>by
  rw[mZ] at hk
  have hki:ids[k]? =some ids[k]:=by simp[hk]
  obtain⟨g1,g2⟩:=mb (C:=C) hki
  rw[g1,g2,dB] at ho'
  rw[g2] at hb'
  exact hI.s8 _ i (hlt _ (List.getElem_mem hk)) hi (fun e=>hn (e▸List.getElem_mem hk)) ho' ho hb'
 have clsOld: ∀i b,i<C.st.length->i∉ids->cr (C.ι i) (an C.st i)=true->(C1.cls b=(C.ι i).block↔C.cls b=(C.ι i).block)/\(C.cls b=(C.ι i).block->C1.rk b=C.rk b):=fun i b hi hn ho=>by
  have hil:=((hI.obj i hi).lt ho).1
  rcases he.cls b with⟨h,h'⟩|⟨h,h2⟩
  ·rw[h];exact⟨Iff.rfl,fun _=>h'⟩
  ·have h':C.w.heap.size<=b:=h
   refine⟨⟨?_,?_⟩,fun e=>?_⟩
   ·intro e
    exfalso
    rw[e] at h2
    rcases h2 with⟨k,hk,ho',hb'⟩|h2
    ·refine notBy i hi hn ho ⟨k,hk,ho',?_⟩
     rw[hb'];exact hI.eQ i hi ho
    ·have h3:C.w.heap.size<=(C.ι i).block:=h2
     omega
   ·intro e
    rw[hI.fresh h'] at e;omega
   ·rw[hI.fresh h'] at e;omega
 have hrefs: ∀i,i<C.st.length->bU C (C.merge C1 ids) i i:=fun i hi=>by
  by_cases hm:i∈ids
  ·obtain⟨k,hk⟩:=List.mem_iff_getElem?.1 hm
   have hkl:=(List.getElem?_eq_some_iff.1 hk).1
   exact((lR (C:=C) (hidx k i hk)).trans (he.refs k hkl)).trans (toC i k (by omega) (atId k i hk).1 (atId k i hk).2)
  ·exact dM hI hi (by omega) (atOld i hi hm).1 (atOld i hi hm).2 (fun h b hb=>⟨((clsOld i b hi hm h).1.2 hb).trans hb.symm,(clsOld i b hi hm h).2 hb,frameAll i b hi hm h hb⟩)
 have kinds: ∀i,i<(C.merge C1 ids).st.length->(∃j,j<C1.st.length/\an (C.merge C1 ids).st i=eY (iO ids C.st.length) (an C1.st j)/\(C.merge C1 ids).ι i=C1.ι j/\((j<ids.length/\ids[j]? =some i)\/(ids.length<=j/\i=C.st.length+(j - ids.length))))\/
   (i<C.st.length/\i∉ids):=fun i hi=>by
  rcases Nat.lt_or_ge i C.st.length with h|h
  ·by_cases hm:i∈ids
   ·obtain⟨k,hk⟩:=List.mem_iff_getElem?.1 hm
    have hkl:=(List.getElem?_eq_some_iff.1 hk).1
    exact .inl ⟨k,by omega,(atId k i hk).1,(atId k i hk).2, .inl ⟨hkl,hk⟩⟩
   ·exact .inr ⟨h,hm⟩
  ·have e:i=C.st.length+((ids.length+(i - C.st.length)) - ids.length):=by omega
   have h':=atNew (ids.length+(i - C.st.length)) (by omega)
   rw[←e] at h'
   exact .inl ⟨ids.length+(i - C.st.length),by omega,h'.1,h'.2, .inr ⟨by omega,e⟩⟩
 have disMix: ∀i j,i<C.st.length->i∉ids->cr (C.ι i) (an C.st i)=true->j<C1.st.length->cr (C1.ι j) (an C1.st j)=true->(C.ι i).block≠(C1.ι j).block:=fun i j hi hn ho hj hoj e=>by
  rcases own1 j hj hoj with⟨k,m,hk,hom,hb⟩|h
  ·exact hI.s8 m i (hlt m (List.mem_iff_getElem?.2 ⟨k,hk⟩)) hi (fun e'=>hn (e'▸List.mem_iff_getElem?.2 ⟨k,hk⟩)) hom ho (hb.trans e.symm)
  ·have:=((hI.obj i hi).lt ho).1;omega
 refine⟨⟨hI.lay,fun i hi=>?_,fun i j hi hj hij hoi hoj=>?_,hI1.xs,fun i hi hoi=>?_,hI1.mT,hI.kJ hk0⟩,⟨hk0,he.size,he.os,he.tape,he.output,fun b hb hn=>frame b hb (fun k i hk ho e=>hn ⟨i,hlt i (List.mem_iff_getElem?.2 ⟨k,hk⟩),ho,e⟩),fun b hb=>?_,fun b hb=>?_,hrefs,fun b=>?_,he.lr⟩,hback,hkm⟩
 ·rcases kinds i hi with⟨j,hj,g1,g2,_⟩|⟨h,hm⟩
  ·rw[g1,g2]
   exact(hI1.obj j hj).move hkm hI1.lay _ (fun k _ hkl=>hback k hkl) (hI1.eQ j hj) ⟨fun b ho hb=>⟨(hI1.dv ⟨j,hj,ho,hb.symm⟩).2,rfl⟩,fun _ _=>⟨Iff.rfl,fun _=>rfl⟩,dN.refl _,Nat.le_refl _,fun _ _=>rfl⟩
  ·rw[(atOld i h hm).1,(atOld i h hm).2]
   refine(hI.obj i h).eu hk0 hI.lay (fun k hk _=>hrefs k hk) (hI.eQ i h) ⟨fun b ho hb=>⟨fun hX=>?_,frameAll i b h hm ho hb⟩,fun hm' b=>clsOld i b h hm (xX hm'),⟨he.os,he.tape,he.output⟩,he.size,fun _ _=>he.lr⟩
   have hlo:=hI.dv ⟨i,h,ho,hb.symm⟩
   rcases he.oQ _ hX with hx|hx|hx
   ·exact hlo.2 hx
   ·obtain⟨k,hk,ho',hb'⟩:=hx
    exact notBy i h hm ho ⟨k,hk,ho',hb'.trans hb⟩
   ·have h2:C.w.heap.size<=b:=hx
    have:=hlo.1
    omega
 ·rcases kinds i hi with⟨k,hk,g1,g2,g3⟩|⟨h,hm⟩<;>rcases kinds j hj with⟨l,hl,g4,g5,g6⟩|⟨h',hm'⟩
  ·rw[g1,g2,dB] at hoi
   rw[g4,g5,dB] at hoj
   rw[g2,g5]
   refine hI1.s8 k l hk hl (fun e=>hij ?_) hoi hoj
   subst e
   rcases g3 with⟨a1,a2⟩|⟨a1,a2⟩<;>rcases g6 with⟨a3,a4⟩|⟨a3,a4⟩
   ·rw[a2] at a4;exact Option.some.inj a4
   ·omega
   ·omega
   ·omega
  ·rw[g1,g2,dB] at hoi
   rw[(atOld j h' hm').1,(atOld j h' hm').2] at hoj
   rw[g2,(atOld j h' hm').2]
   exact(disMix j k h' hm' hoj hk hoi).symm
  ·rw[(atOld i h hm).1,(atOld i h hm).2] at hoi
   rw[g4,g5,dB] at hoj
   rw[(atOld i h hm).2,g5]
   exact disMix i l h hm hoi hl hoj
  ·rw[(atOld i h hm).1,(atOld i h hm).2] at hoi
   rw[(atOld j h' hm').1,(atOld j h' hm').2] at hoj
   rw[(atOld i h hm).2,(atOld j h' hm').2]
   exact hI.s8 i j h h' hij hoi hoj
 ·rcases kinds i hi with⟨j,hj,g1,g2,_⟩|⟨h,hm⟩
  ·rw[g1,g2,dB] at hoi
   rw[g2]
   exact hI1.eQ j hj hoi
  ·rw[(atOld i h hm).1,(atOld i h hm).2] at hoi
   rw[(atOld i h hm).2]
   exact(clsOld i _ h hm hoi).1.2 (hI.eQ i h hoi)
 ·rcases he.oQ b hb with h|h|h
  ·exact .inl h
  ·exact .inr (.inl (ownOld b h))
  ·exact .inr (.inr h)
 ·obtain⟨i,hi,ho,hb'⟩:=hb
  rcases kinds i hi with⟨j,hj,g1,g2,_⟩|⟨h,hm⟩
  ·rw[g1,g2,dB] at ho
   rw[g2] at hb'
   rcases he.fV b ⟨j,hj,ho,hb'⟩ with h|h
   ·exact .inl (ownOld b h)
   ·exact .inr h
  ·rw[(atOld i h hm).1,(atOld i h hm).2] at ho
   rw[(atOld i h hm).2] at hb'
   exact .inl ⟨i,h,ho,((clsOld i b h hm ho).1.1 hb'.symm).symm⟩
 ·rcases he.cls b with h|⟨h,h2⟩
  ·exact .inl h
  ·refine .inr ⟨h,?_⟩
   rcases h2 with h2|h2
   ·exact .inl (ownOld _ h2)
   ·exact .inr h2
theorem sI{E:Env}(hE:aE E){f:FuncId}{args:List AV}{st:List Obj}{K:AV->List Obj->Prop}(h:pO E f args st K){C:Ctx}(hC:C.P=E.P)(hI:Inv C)(hst:C.st=st){vs:Array Value}(hm:MT C args vs.toList):
  (∃fn,E.P.funcs[f]? =some fn/\fn.body.isSome=true)/\CallsIn Fence.wide 0 E.P f vs C.w (eF C C.st.length K):=by
 subst hst
 unfold pO at h
 obtain⟨hok,h⟩:=ai.1 h
 simp only[jQ,mu,kf] at h
 obtain⟨hfn,hcall⟩:=hE.call _ _ _ _ h
 refine⟨hfn,?_⟩
 generalize hids:reach C.st (C.st.length*C.st.length+C.st.length+20) (cW args) []=ids at*
 obtain⟨h1,h2,h3⟩:=tJ hI hok
 have hmt:=jL h2.keeps hI.lay (fun i=>jt i ids 0) args vs.toList (fun i hi _=>by obtain⟨j,hj⟩:=h3 i hi;exact⟨j,hj,lR hj⟩) hm
 refine(hcall (C.by ids) vs hC h1 rfl hmt).mono ?_
 rintro e w' ⟨v,r,C1,rfl,rfl,hP1,hI1,hr,he,hK⟩
 have hl:(gK (fun i=>jt i ids 0) (ik C.st ids)).length=ids.length:=by simp[iz,jP]
 rw[hl] at he
 obtain⟨g1,g2,g3,g4⟩:=Gq hI hok hI1 he
 refine⟨v,ll (iO ids C.st.length) r,C.merge C1 ids,rfl,rfl,rfl,g1,?_,g2,hK⟩
 exact hr.move g4 hI1.lay _ (fun i _ hlt=>g3 i hlt)
theorem GV{C:Ctx}(hI:Inv C){Ts:List TypeId}{a:AV}{v:Value}(hr:Rel C a v):Rel C (Jw C.P Ts a) v:=by
 unfold Jw
 grind [z9,cL,tk,xy]
theorem qd{C C1:Ctx}(hI:Inv C)(he:Ext C.st.length C C1)(hw:C1.w=C.w): ∀(l m:List AV) (is:List Nat) (vs:List Value),wj C.st l=some (m,is)->(∀i,i∈is->i<C.st.length->wz C i->C1.X (C.ι i).block)->MT C l vs->MT C1 m vs
 |[],m,is,vs,h,_,hm=>by
  simp only[wj,aa3,aa9] at h
  obtain⟨rfl,_⟩:=h;simpa[MT] using hm
 |_::_,_,_,[],_,_,hm=>by simp[MT] at hm
 | a ::l,m,is,v::vs,h,hX,hm=>by
  simp only[MT] at hm
  have hra:Rel C a v:=⟨hm.1,hm.2.1,hm.2.2.1⟩
  simp only[wj] at h
  split at h
  ·simp at h
  ·rename_i m' is' hrec
   split at h
   ·split at h
    ·rename_i b hb
     simp only[aa3,aa9] at h
     obtain⟨rfl,rfl⟩:=h
     have:=nk hI he.keeps hw hb (fun i hi hlt hn=>hX i (ab4 _ hi) hlt hn) hra
     simp only[MT]
     exact⟨this.1,this.2.1,this.2.2,qd hI he hw l m' is' vs hrec (fun i hi=>hX i (ab3 _ hi)) hm.2.2.2⟩
    ·simp at h
   ·split at h
    ·rename_i b hb
     simp only[aa3,aa9] at h
     obtain⟨rfl,rfl⟩:=h
     have:=nk hI he.keeps hw hb (fun i hi hlt hn=>hX i (ab4 _ hi) hlt hn) hra
     simp only[MT]
     exact⟨this.1,this.2.1,this.2.2,qd hI he hw l m' is' vs hrec (fun i hi=>hX i (ab3 _ hi)) hm.2.2.2⟩
    ·simp at h
   ·simp only[aa3,aa9] at h
    obtain⟨rfl,rfl⟩:=h
    have:=hra.eu he.keeps hI.lay (fun i _ hlt=>he.refs i hlt)
    simp only[MT]
    exact⟨this.1,this.2.1,this.2.2,qd hI he hw l m' _ vs hrec hX hm.2.2.2⟩
end Go.Dn
