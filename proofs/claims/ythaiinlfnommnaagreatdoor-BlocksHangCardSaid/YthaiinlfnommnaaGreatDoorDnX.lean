import Derived.Test.YthaiinlfnommnaaGreatDoorDnW
namespace Go.Dn
open Go
theorem qD(ρ:Nat->Option Nat): ∀(ids:List Nat) (st sub:List Obj),(fg.go ρ st ids sub).length=st.length+(sub.length - ids.length)
 |[],st,sub=>by simp[fg.go,iY]
 |i::ids,st,[]=>by simp[fg.go]
 |i::ids,st,o::sub=>by simp only[fg.go];rw[qD ρ ids,aU];simp
theorem x1(ρ:Nat->Option Nat): ∀(ids:List Nat) (st sub:List Obj) (j:Nat),ids.length<=j->ids.length<=sub.length->aw (fg.go ρ st ids sub) (st.length+(j - ids.length))=fc ρ (aw sub j)
 |[],st,sub,j,_,_=>by simp only[fg.go,List.length_nil,Nat.sub_zero];rw[gn,pb]
 |i::ids,st,[],j,_,h=>by simp at h
 | i::ids,st,o::sub,j,h,h'=>by
  simp only[fg.go]
  have:=x1 ρ ids (db st i (fc ρ o)) sub (j - 1) (by simp at h;omega) (by simpa using h')
  rw[aU] at this
  have e1:aw (o::sub) j=aw sub (j - 1):=by
   cases j with
   |zero=>simp at h
   |succ j=>rfl
  rw[e1,←this]
  congr 1
  simp at h⊢;omega
theorem rM(ρ:Nat->Option Nat): ∀(ids:List Nat) (st sub:List Obj) (i:Nat),i∉ids->i<st.length->aw (fg.go ρ st ids sub) i=aw st i
 |[],st,sub,i,_,h=>by simp only[fg.go];exact dT _ _ _ h
 |j::ids,st,[],i,_,_=>rfl
 |j::ids,st,o::sub,i,hi,h=>by
  simp only[ac3,not_or] at hi
  simp only[fg.go]
  rw[rM ρ ids _ sub i hi.2 (by rw[aU];exact h),bz _ _ _ _ (fun e=>hi.1 e.symm)]
theorem B6(ρ:Nat->Option Nat): ∀(ids:List Nat) (st sub:List Obj) (k i:Nat),ids.Nodup->ids[k]? =some i->i<st.length->ids.length<=sub.length->aw (fg.go ρ st ids sub) i=fc ρ (aw sub k)
 |[],st,sub,k,i,_,h,_,_=>by simp at h
 |j::ids,st,[],k,i,_,_,_,h=>by simp at h
 |j::ids,st,o::sub,0,i,hn,h,hi,hl=>by
  simp at h;subst h
  simp only[List.nodup_cons] at hn
  simp only[fg.go,aw]
  rw[rM ρ ids _ sub j hn.1 (by rw[aU];exact hi),bp _ _ _ hi]
 |j::ids,st,o::sub,k+1,i,hn,h,hi,hl=>by
  simp only[List.nodup_cons] at hn
  simp only[fg.go,aw]
  exact B6 ρ ids _ sub k i hn.2 (by simpa using h) (by rw[aU];exact hi) (by simpa using hl)
theorem Hv: ∀(ids:List Nat) (k i:Nat),ids[k]? =some i->jl.idN ids k=some i
 |[],_,_,h=>by simp at h
 |a::ids,0,i,h=>by simpa[jl.idN] using h
 |a::ids,k+1,i,h=>by simp only[jl.idN];exact Hv ids k i (by simpa using h)
theorem H4{ids:List Nat}{n k i:Nat}(h:ids[k]? =some i):jl ids n k=some i:=by
 simp[jl,Hv ids k i h]
theorem Hi: ∀(ids:List Nat) (k:Nat),ids.length<=k->jl.idN ids k=none
 |[],_,_=>rfl
 |a::ids,0,h=>by simp at h
 |a::ids,k+1,h=>by simp only[jl.idN];exact Hi ids k (by simpa using h)
theorem H3{ids:List Nat}{n j:Nat}(h:ids.length<=j):jl ids n j=some (n+(j - ids.length)):=by
 simp[jl,Hi ids j h]
def Ctx.merge(C C1:Ctx)(ids:List Nat):Ctx:=
 {P:=C.P,X:=C1.X,w:=C1.w,cls:=C1.cls,rJ:=C1.rJ,l7:=C1.l7,st:=fg C.st ids (jl ids C.st.length) C1.st,
  ι:=fun i=>if C.st.length<=i then C1.ι (ids.length+(i - C.st.length)) else match jZ i ids 0 with|some k=>C1.ι k|none=>C.ι i}
theorem Je{C C1:Ctx}(hI:Inv C){roots ids:List Nat}(hok:pw 0 C.st roots ids=true)(hI1:Inv C1)(he:Ext ids.length (C.by ids) C1):
  Inv (C.merge C1 ids)/\Ext C.st.length C (C.merge C1 ids)/\(∀j,j<C1.st.length->∃i,jl ids C.st.length j=some i/\cd C1 (C.merge C1 ids) j i)/\bQ C1 (C.merge C1 ids):=by
 obtain⟨hIb,heb,_⟩:=vW hI hok
 simp only[pw,aa2] at hok
 obtain⟨⟨⟨⟨h1,h2⟩,h3⟩,h4⟩,h5⟩:=hok
 have hnd:=lF h1
 have hlt: ∀i,i∈ids->i<C.st.length:=mW h2
 have hP1:C1.P=C.P:=he.keeps.P
 have hlen1:ids.length<=C1.st.length:=by
  rcases Nat.eq_zero_or_pos ids.length with h|h
  ·omega
  ·have:=(he.refs (ids.length - 1) (by omega)).lt;omega
 have hml:(C.merge C1 ids).st.length=C.st.length+(C1.st.length - ids.length):=qD _ _ _ _
 have hidx: ∀k i,ids[k]? =some i->jZ i ids 0=some k:=fun k i h=>by
  obtain⟨j,hj⟩:=nC (ids:=ids) 0 (List.mem_iff_getElem?.2 ⟨k,h⟩)
  obtain⟨k',e1,e2⟩:=ru hj
  obtain rfl:j=k':=by omega
  obtain⟨_,e3⟩:=List.getElem?_eq_some_iff.1 h
  obtain⟨_,e4⟩:=List.getElem?_eq_some_iff.1 e2
  rw[hj];congr 1
  exact(List.getElem_inj hnd).1 (e4.trans e3.symm)
 have hout: ∀i,i∉ids->jZ i ids 0=none:=fun i h=>by
  cases hx:jZ i ids 0 with
  |none=>rfl
  |some j=>obtain⟨k,_,e⟩:=ru hx;exact absurd (List.mem_iff_getElem?.2 ⟨k,e⟩) h
 have atId: ∀k i,ids[k]? =some i->aw (C.merge C1 ids).st i=fc (jl ids C.st.length) (aw C1.st k)/\(C.merge C1 ids).ι i=C1.ι k:=fun k i h=>by
  have hi:=hlt i (List.mem_iff_getElem?.2 ⟨k,h⟩)
  refine⟨B6 _ _ _ _ k i hnd h hi hlen1,?_⟩
  simp only[Ctx.merge]
  rw[if_neg (by omega),hidx k i h]
 have atNew: ∀j,ids.length<=j->aw (C.merge C1 ids).st (C.st.length+(j - ids.length))=fc (jl ids C.st.length) (aw C1.st j)/\(C.merge C1 ids).ι (C.st.length+(j - ids.length))=C1.ι j:=fun j h=>by
  refine⟨x1 _ _ _ _ j h hlen1,?_⟩
  simp only[Ctx.merge]
  rw[if_pos (by omega)]
  congr 1;omega
 have atOld: ∀i,i<C.st.length->i∉ids->aw (C.merge C1 ids).st i=aw C.st i/\(C.merge C1 ids).ι i=C.ι i:=fun i hi h=>by
  refine⟨rM _ _ _ _ i h hi,?_⟩
  simp only[Ctx.merge]
  rw[if_neg (by omega),hout i h]
 have hkm:bQ C1 (C.merge C1 ids):=⟨hP1.symm,fun _ h=>h,fun _ _=>rfl⟩
 have toC: ∀(i j:Nat),i<(C.merge C1 ids).st.length->aw (C.merge C1 ids).st i=fc (jl ids C.st.length) (aw C1.st j)->(C.merge C1 ids).ι i=C1.ι j->cd C1 (C.merge C1 ids) j i:=fun i j hi g1 g2=>by
  refine⟨hi,fun T xs hx=>?_,fun T a hx=>?_,fun K V es hx=>?_,fun r hx=>?_,fun m n ks hx=>?_,fun t hx=>?_,fun s p hx=>?_,fun K V ks vs met hx=>?_,fun T E ls pd hx=>?_⟩
  ·rw[g1,zr] at hx;exact⟨xs,hx,g2,Nat.le_refl _⟩
  ·rw[g1] at hx
   cases ho:aw C1.st j<;>rw[ho] at hx<;>simp[fc] at hx
   obtain⟨rfl,_⟩:=hx
   exact⟨_,rfl,g2⟩
  ·rw[g1] at hx
   cases ho:aw C1.st j<;>rw[ho] at hx<;>simp[fc] at hx
   obtain⟨rfl,rfl,rfl⟩:=hx
   exact⟨_,rfl,g2,fun ents clock hh=>⟨ents,clock,hh,dX.refl _ _⟩⟩
  ·rw[g1] at hx
   cases ho:aw C1.st j<;>rw[ho] at hx<;>simp[fc] at hx
   exact⟨_,rfl,g2⟩
  ·rw[g1] at hx
   cases ho:aw C1.st j<;>rw[ho] at hx<;>simp[fc] at hx
   obtain⟨_,rfl,_⟩:=hx
   exact⟨_,_,rfl,g2⟩
  ·rw[g1] at hx
   cases ho:aw C1.st j<;>rw[ho] at hx<;>simp[fc] at hx
   exact⟨_,rfl,g2⟩
  ·rw[g1] at hx
   cases ho:aw C1.st j<;>rw[ho] at hx<;>simp[fc] at hx
   obtain⟨rfl,_⟩:=hx
   exact⟨_,rfl,g2⟩
  ·rw[g1] at hx
   cases ho:aw C1.st j<;>rw[ho] at hx<;>simp[fc] at hx
   obtain⟨rfl,rfl,rfl,rfl,_⟩:=hx
   exact⟨_,rfl,g2⟩
  ·rw[g1] at hx
   cases ho:aw C1.st j<;>rw[ho] at hx<;>simp[fc] at hx
   obtain⟨rfl,rfl,rfl,_⟩:=hx
   exact⟨_,_,rfl,g2,rfl,fun _ _ _ h=>h⟩
 have hback: ∀j,j<C1.st.length->∃i,jl ids C.st.length j=some i/\cd C1 (C.merge C1 ids) j i:=fun j hj=>by
  rcases Nat.lt_or_ge j ids.length with h|h
  ·have hk:ids[j]? =some ids[j]:=by simp[h]
   have hi:=hlt _ (List.getElem_mem h)
   exact⟨ids[j],H4 hk,toC _ _ (by omega) (atId j _ hk).1 (atId j _ hk).2⟩
  ·exact⟨_,H3 h,toC _ _ (by omega) (atNew j h).1 (atNew j h).2⟩
 have ownOld: ∀b,Own (C.by ids) b->Own C b:=fun b hb=>by
  rcases heb.gG b hb with h|h
  ·exact h
  ·have:=(hIb.dJ hb).1;exact absurd this (by show ¬ b<C.w.heap.size;omega)
 have own1: ∀j,j<C1.st.length->cv (C1.ι j) (aw C1.st j)=true->(∃k i,ids[k]? =some i/\cv (C.ι i) (aw C.st i)=true/\(C.ι i).block=(C1.ι j).block)\/C.w.heap.size<=(C1.ι j).block:=fun j hj ho=>by
  have hself:=hI1.fm j hj ho
  by_cases hlt1:(C1.ι j).block<C.w.heap.size
  ·rcases he.gG _ (hI1.rY hj ho) with⟨k,hk,ho',hb'⟩|h
   ·rw[nv] at hk
    have hki:ids[k]? =some ids[k]:=by simp[hk]
    obtain⟨g1,g2⟩:=my (C:=C) hki
    rw[g1,g2,dK] at ho'
    rw[g2] at hb'
    refine .inl ⟨k,_,hki,ho',?_⟩
    rcases he.cls (C1.ι j).block with⟨h,_⟩|⟨h,_⟩
    ·rw[hb',←h,hself]
    ·exact absurd hlt1 (by have h2:C.w.heap.size<=(C1.ι j).block:=h;omega)
   ·exact .inr h
  ·exact .inr (by omega)
 have frame: ∀b,b<C.w.heap.size->(∀k i,ids[k]? =some i->cv (C.ι i) (aw C.st i)=true->(C.ι i).block≠C.cls b)->C1.w.heap[b]? =C.w.heap[b]? :=fun b hb hn=>he.frame b hb (fun ho=>by
  obtain⟨k,hk,ho',hb'⟩:=ho
  rw[nv] at hk
  have hki:ids[k]? =some ids[k]:=by simp[hk]
  obtain⟨g1,g2⟩:=my (C:=C) hki
  rw[g1,g2,dK] at ho'
  rw[g2] at hb'
  exact hn k _ hki ho' hb')
 have frameAll: ∀i b,i<C.st.length->i∉ids->cv (C.ι i) (aw C.st i)=true->C.cls b=(C.ι i).block->C1.w.heap[b]? =C.w.heap[b]? :=fun i b hi hn ho hb=>
  frame _ (hI.dJ ⟨i,hi,ho,hb.symm⟩).1 (fun k j hk hoj e=>hI.rH j i (hlt j (List.mem_iff_getElem?.2 ⟨k,hk⟩)) hi (fun e'=>hn (e'▸List.mem_iff_getElem?.2 ⟨k,hk⟩)) hoj ho (e.trans hb))
 have frameOld: ∀i,i<C.st.length->i∉ids->cv (C.ι i) (aw C.st i)=true->C1.w.heap[(C.ι i).block]? =C.w.heap[(C.ι i).block]? :=fun i hi hn ho=>
  frameAll i _ hi hn ho (hI.fm i hi ho)
 have hk0:bQ C (C.merge C1 ids):=⟨rfl,fun b hb=>he.keeps.X b hb,fun b hb=>he.keeps.heap b hb⟩
 have notBy: ∀i,i<C.st.length->i∉ids->cv (C.ι i) (aw C.st i)=true-> ¬ ∃k,k<(C.by ids).st.length/\cv ((C.by ids).ι k) (aw (C.by ids).st k)=true/\((C.by ids).ι k).block=(C.ι i).block:=fun i hi hn ho ⟨k,hk,ho',hb'⟩=>by
  rw[nv] at hk
  have hki:ids[k]? =some ids[k]:=by simp[hk]
  obtain⟨g1,g2⟩:=my (C:=C) hki
  rw[g1,g2,dK] at ho'
  rw[g2] at hb'
  exact hI.rH _ i (hlt _ (List.getElem_mem hk)) hi (fun e=>hn (e▸List.getElem_mem hk)) ho' ho hb'
 have clsOld: ∀i b,i<C.st.length->i∉ids->cv (C.ι i) (aw C.st i)=true->(C1.cls b=(C.ι i).block↔C.cls b=(C.ι i).block)/\(C.cls b=(C.ι i).block->C1.rJ b=C.rJ b):=fun i b hi hn ho=>by
  have hil:=((hI.obj i hi).lt ho).1
  rcases he.cls b with⟨h,h'⟩|⟨h,h2⟩
  ·rw[h];exact⟨Iff.rfl,fun _=>h'⟩
  ·have h':C.w.heap.size<=b:=h
   refine⟨⟨?_,?_⟩,fun e=>?_⟩
   ·intro e
    exfalso
    rw[e] at h2
    rcases h2 with⟨k,hk,ho',hb'⟩|h2
    ·refine notBy i hi hn ho ⟨k,hk,ho',?_⟩
     rw[hb'];exact hI.fm i hi ho
    ·have h3:C.w.heap.size<=(C.ι i).block:=h2
     omega
   ·intro e
    rw[hI.fresh h'] at e;omega
   ·rw[hI.fresh h'] at e;omega
 have hrefs: ∀i,i<C.st.length->cd C (C.merge C1 ids) i i:=fun i hi=>by
  by_cases hm:i∈ids
  ·obtain⟨k,hk⟩:=List.mem_iff_getElem?.1 hm
   have hkl:=(List.getElem?_eq_some_iff.1 hk).1
   exact((me (C:=C) (hidx k i hk)).trans (he.refs k hkl)).trans (toC i k (by omega) (atId k i hk).1 (atId k i hk).2)
  ·exact ee hI hi (by omega) (atOld i hi hm).1 (atOld i hi hm).2 (fun h b hb=>⟨((clsOld i b hi hm h).1.2 hb).trans hb.symm,(clsOld i b hi hm h).2 hb,frameAll i b hi hm h hb⟩)
 have kinds: ∀i,i<(C.merge C1 ids).st.length->(∃j,j<C1.st.length/\aw (C.merge C1 ids).st i=fc (jl ids C.st.length) (aw C1.st j)/\(C.merge C1 ids).ι i=C1.ι j/\((j<ids.length/\ids[j]? =some i)\/(ids.length<=j/\i=C.st.length+(j - ids.length))))\/
   (i<C.st.length/\i∉ids):=fun i hi=>by
  rcases Nat.lt_or_ge i C.st.length with h|h
  ·by_cases hm:i∈ids
   ·obtain⟨k,hk⟩:=List.mem_iff_getElem?.1 hm
    have hkl:=(List.getElem?_eq_some_iff.1 hk).1
    exact .inl ⟨k,by omega,(atId k i hk).1,(atId k i hk).2, .inl ⟨hkl,hk⟩⟩
   ·exact .inr ⟨h,hm⟩
  ·have e:i=C.st.length+((ids.length+(i - C.st.length)) - ids.length):=by omega
   have h':=atNew (ids.length+(i - C.st.length)) (by omega)
   rw[←e] at h'
   exact .inl ⟨ids.length+(i - C.st.length),by omega,h'.1,h'.2, .inr ⟨by omega,e⟩⟩
 have disMix: ∀i j,i<C.st.length->i∉ids->cv (C.ι i) (aw C.st i)=true->j<C1.st.length->cv (C1.ι j) (aw C1.st j)=true->(C.ι i).block≠(C1.ι j).block:=fun i j hi hn ho hj hoj e=>by
  rcases own1 j hj hoj with⟨k,m,hk,hom,hb⟩|h
  ·exact hI.rH m i (hlt m (List.mem_iff_getElem?.2 ⟨k,hk⟩)) hi (fun e'=>hn (e'▸List.mem_iff_getElem?.2 ⟨k,hk⟩)) hom ho (hb.trans e.symm)
  ·have:=((hI.obj i hi).lt ho).1;omega
 refine⟨⟨hI.lay,fun i hi=>?_,fun i j hi hj hij hoi hoj=>?_,hI1.xs,fun i hi hoi=>?_,hI1.pg,hI.mm hk0⟩,⟨hk0,he.size,he.os,he.tape,he.output,fun b hb hn=>frame b hb (fun k i hk ho e=>hn ⟨i,hlt i (List.mem_iff_getElem?.2 ⟨k,hk⟩),ho,e⟩),fun b hb=>?_,fun b hb=>?_,hrefs,fun b=>?_,he.l7⟩,hback,hkm⟩
 ·rcases kinds i hi with⟨j,hj,g1,g2,_⟩|⟨h,hm⟩
  ·rw[g1,g2]
   exact(hI1.obj j hj).move hkm hI1.lay _ (fun k _ hkl=>hback k hkl) (hI1.fm j hj) ⟨fun b ho hb=>⟨(hI1.dJ ⟨j,hj,ho,hb.symm⟩).2,rfl⟩,fun _ _=>⟨Iff.rfl,fun _=>rfl⟩,dY.refl _,Nat.le_refl _,fun _ _=>rfl⟩
  ·rw[(atOld i h hm).1,(atOld i h hm).2]
   refine(hI.obj i h).keep hk0 hI.lay (fun k hk _=>hrefs k hk) (hI.fm i h) ⟨fun b ho hb=>⟨fun hX=>?_,frameAll i b h hm ho hb⟩,fun hm' b=>clsOld i b h hm (xZ hm'),⟨he.os,he.tape,he.output⟩,he.size,fun _ _=>he.l7⟩
   have hlo:=hI.dJ ⟨i,h,ho,hb.symm⟩
   rcases he.qn _ hX with hx|hx|hx
   ·exact hlo.2 hx
   ·obtain⟨k,hk,ho',hb'⟩:=hx
    exact notBy i h hm ho ⟨k,hk,ho',hb'.trans hb⟩
   ·have h2:C.w.heap.size<=b:=hx
    have:=hlo.1
    omega
 ·rcases kinds i hi with⟨k,hk,g1,g2,g3⟩|⟨h,hm⟩<;>rcases kinds j hj with⟨l,hl,g4,g5,g6⟩|⟨h',hm'⟩
  ·rw[g1,g2,dK] at hoi
   rw[g4,g5,dK] at hoj
   rw[g2,g5]
   refine hI1.rH k l hk hl (fun e=>hij ?_) hoi hoj
   subst e
   rcases g3 with⟨a1,a2⟩|⟨a1,a2⟩<;>rcases g6 with⟨a3,a4⟩|⟨a3,a4⟩
   ·rw[a2] at a4;exact Option.some.inj a4
   ·omega
   ·omega
   ·omega
  ·rw[g1,g2,dK] at hoi
   rw[(atOld j h' hm').1,(atOld j h' hm').2] at hoj
   rw[g2,(atOld j h' hm').2]
   exact(disMix j k h' hm' hoj hk hoi).symm
  ·rw[(atOld i h hm).1,(atOld i h hm).2] at hoi
   rw[g4,g5,dK] at hoj
   rw[(atOld i h hm).2,g5]
   exact disMix i l h hm hoi hl hoj
  ·rw[(atOld i h hm).1,(atOld i h hm).2] at hoi
   rw[(atOld j h' hm').1,(atOld j h' hm').2] at hoj
   rw[(atOld i h hm).2,(atOld j h' hm').2]
   exact hI.rH i j h h' hij hoi hoj
 ·rcases kinds i hi with⟨j,hj,g1,g2,_⟩|⟨h,hm⟩
  ·rw[g1,g2,dK] at hoi
   rw[g2]
   exact hI1.fm j hj hoi
  ·rw[(atOld i h hm).1,(atOld i h hm).2] at hoi
   rw[(atOld i h hm).2]
   exact(clsOld i _ h hm hoi).1.2 (hI.fm i h hoi)
 ·rcases he.qn b hb with h|h|h
  ·exact .inl h
  ·exact .inr (.inl (ownOld b h))
  ·exact .inr (.inr h)
 ·obtain⟨i,hi,ho,hb'⟩:=hb
  rcases kinds i hi with⟨j,hj,g1,g2,_⟩|⟨h,hm⟩
  ·rw[g1,g2,dK] at ho
   rw[g2] at hb'
   rcases he.gG b ⟨j,hj,ho,hb'⟩ with h|h
   ·exact .inl (ownOld b h)
   ·exact .inr h
  ·rw[(atOld i h hm).1,(atOld i h hm).2] at ho
   rw[(atOld i h hm).2] at hb'
   exact .inl ⟨i,h,ho,((clsOld i b h hm ho).1.1 hb'.symm).symm⟩
 ·rcases he.cls b with h|⟨h,h2⟩
  ·exact .inl h
  ·refine .inr ⟨h,?_⟩
   rcases h2 with h2|h2
   ·exact .inl (ownOld _ h2)
   ·exact .inr h2
theorem sW{E:Env}(hE:aB E){f:FuncId}{args:List AV}{st:List Obj}{K:AV->List Obj->Prop}(h:pT E f args st K){C:Ctx}(hC:C.P=E.P)(hI:Inv C)(hst:C.st=st){vs:Array Value}(hm:MT C args vs.toList):
  (∃fn,E.P.funcs[f]? =some fn/\fn.body.isSome=true)/\CallsIn Fence.wide 0 E.P f vs C.w (eO C C.st.length K):=by
 subst hst
 unfold pT at h
 obtain⟨hok,h⟩:=aq.1 h
 simp only[lu,mP,kK] at h
 obtain⟨hfn,hcall⟩:=hE.call _ _ _ _ h
 refine⟨hfn,?_⟩
 generalize hids:reach C.st (C.st.length*C.st.length+C.st.length+20) (cW args) []=ids at*
 obtain⟨h1,h2,h3⟩:=vW hI hok
 have hmt:=ki h2.keeps hI.lay (fun i=>jZ i ids 0) args vs.toList (fun i hi _=>by obtain⟨j,hj⟩:=h3 i hi;exact⟨j,hj,me hj⟩) hm
 refine(hcall (C.by ids) vs hC h1 rfl hmt).mono ?_
 rintro e w' ⟨v,r,C1,rfl,rfl,hP1,hI1,hr,he,hK⟩
 have hl:(gA (fun i=>jZ i ids 0) (gT C.st ids)).length=ids.length:=by simp[iY,kf]
 rw[hl] at he
 obtain⟨g1,g2,g3,g4⟩:=Je hI hok hI1 he
 refine⟨v,lG (jl ids C.st.length) r,C.merge C1 ids,rfl,rfl,rfl,g1,?_,g2,hK⟩
 exact hr.move g4 hI1.lay _ (fun i _ hlt=>g3 i hlt)
theorem H6{C:Ctx}(hI:Inv C){Ts:List TypeId}{a:AV}{v:Value}(hr:Rel C a v):Rel C (Mr C.P Ts a) v:=by
 unfold Mr
 split
 ·obtain⟨vs,rfl,h⟩:=y6 hr
  have h':Rel C (.bh _) (.tuple vs.toList.toArray):=cu (uc hI Ts _ _ h)
  simpa using h'
 ·split
  ·exact xM hI hr
  ·exact hr
theorem qE{C C1:Ctx}(hI:Inv C)(he:Ext C.st.length C C1)(hw:C1.w=C.w): ∀(l m:List AV) (is:List Nat) (vs:List Value),vq C.st l=some (m,is)->(∀i,i∈is->i<C.st.length->zR C i->C1.X (C.ι i).block)->MT C l vs->MT C1 m vs
 |[],m,is,vs,h,_,hm=>by
  simp only[vq,aa4,ab0] at h
  obtain⟨rfl,_⟩:=h;simpa[MT] using hm
 |_::_,_,_,[],_,_,hm=>by simp[MT] at hm
 | a ::l,m,is,v::vs,h,hX,hm=>by
  simp only[MT] at hm
  have hra:Rel C a v:=⟨hm.1,hm.2.1,hm.2.2.1⟩
  simp only[vq] at h
  split at h
  ·simp at h
  ·rename_i m' is' hrec
   split at h
   ·split at h
    ·rename_i b hb
     simp only[aa4,ab0] at h
     obtain⟨rfl,rfl⟩:=h
     have:=qx hI he.keeps hw hb (fun i hi hlt hn=>hX i (ab5 _ hi) hlt hn) hra
     simp only[MT]
     exact⟨this.1,this.2.1,this.2.2,qE hI he hw l m' is' vs hrec (fun i hi=>hX i (ab4 _ hi)) hm.2.2.2⟩
    ·simp at h
   ·split at h
    ·rename_i b hb
     simp only[aa4,ab0] at h
     obtain⟨rfl,rfl⟩:=h
     have:=qx hI he.keeps hw hb (fun i hi hlt hn=>hX i (ab5 _ hi) hlt hn) hra
     simp only[MT]
     exact⟨this.1,this.2.1,this.2.2,qE hI he hw l m' is' vs hrec (fun i hi=>hX i (ab4 _ hi)) hm.2.2.2⟩
    ·simp at h
   ·simp only[aa4,ab0] at h
    obtain⟨rfl,rfl⟩:=h
    have:=hra.keep he.keeps hI.lay (fun i _ hlt=>he.refs i hlt)
    simp only[MT]
    exact⟨this.1,this.2.1,this.2.2,qE hI he hw l m' _ vs hrec hX hm.2.2.2⟩
end Go.Dn
