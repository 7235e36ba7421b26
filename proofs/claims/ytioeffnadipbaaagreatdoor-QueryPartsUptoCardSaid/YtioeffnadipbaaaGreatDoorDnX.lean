import Derived.Test.YtioeffnadipbaaaGreatDoorDnW
namespace Go.Dn
open Go
theorem sl ρ: ∀ids st a,(fH.go ρ st ids a).length=st.length+(a.length - ids.length)
 |[],st,a=>by simp[fH.go,jn]
 |i::ids,st,[]=>by simp[fH.go]
 |i::ids,st,o::a=>by simp only[fH.go];rw[sl _ _,a9];simp
theorem zn ρ: ∀ids st a j,ids.length<=j->ids.length<=a.length->au (fH.go ρ st ids a) (st.length+(j - ids.length))=fp ρ (au a j)
 |[],st,a,j,_,_=>by simp_all[fH.go,gF,pW]
 |i::ids,st,[],j,_,h=>by grind
 | i::ids,st,o::a,j,h,b=>by
  simp[fH.go];have:=zn ρ ids (dj st i (fp ρ o)) a (j - 1) (by grind) (by grind)
  rw[a9] at this;have c:au (o::a) j=au a (j - 1):=by
   cases j with
   |zero=>grind
   |succ j=>rfl
  grind
theorem tB ρ: ∀ids st a i,i∉ids->i<st.length->au (fH.go ρ st ids a) i=au st i
 |[],st,a,i,_,h=>by grind [fH.go,dV]
 |j::ids,st,[],i,_,_=>rfl
 |j::ids,st,o::a,i,b,h=>by
  simp   at b;simp[fH.go];rw[tB _ _ _ _ i b.2 (by grind [a9]),bw _ _ _ _ (by grind)]
theorem CS ρ: ∀ids st a k i,ids.Nodup->ids[k]? =some i->i<st.length->ids.length<=a.length->au (fH.go ρ st ids a) i=fp ρ (au a k)
 |[],st,a,k,i,_,h,_,_=>by simp at h
 |j::ids,st,[],k,i,_,_,_,h=>by simp at h
 |j::ids,st,o::a,0,i,b,h,c,d=>by
  grind [fH.go,au,tB,a9,bn]
 |j::ids,st,o::a,k+1,i,b,h,c,d=>by
  simp only[List.nodup_cons] at b;exact CS ρ ids _ a k i b.2 (by grind) (by rw[a9];exact c) (by grind)
theorem G2: ∀ids k i,ids[k]? =some i->kQ.idN ids k=some i
 |[],_,_,h=>by grind
 |a::ids,0,i,h=>by grind [kQ.idN]
 |a::ids,k+1,i,h=>by exact G2 _ k i (by grind)
theorem IL{ids n k i}(h:ids[k]? =some i):kQ ids n k=some i:=by
 grind [kQ,G2]
theorem G1: ∀ids k,ids.length<=k->kQ.idN ids k=none
 |[],_,_=>rfl
 |a::ids,0,h=>by grind
 |a::ids,k+1,h=>by exact G1 _ k (by grind)
theorem IK{ids n j}(h:ids.length<=j):kQ ids n j=some (n+(j - ids.length)):=by
 grind [kQ,G1]
def Ctx.merge(C a:Ctx)(ids:List Nat):Ctx:=
 {P:=C.P,X:=a.X,w:=a.w,cls:=a.cls,s5:=a.s5,mv:=a.mv,st:=fH C.st ids (kQ ids C.st.length) a.st,
  ι:=fun i=>if C.st.length<=i then a.ι (ids.length+(i - C.st.length)) else match j8 i ids 0 with|some k=>a.ι k|none=>C.ι i}
theorem JA{C d}(N:Inv C){roots ids}(hok:qt 0 C.st roots ids=true)(L:Inv d)(I:Ext ids.length (C.by ids) d):
  Inv (C.merge d ids)/\Ext C.st.length C (C.merge d ids)/\(∀j,j<d.st.length->∃i,kQ ids C.st.length j=some i/\bW d (C.merge d ids) j i)/\bK d (C.merge d ids):=by
 obtain⟨hIb,heb,_⟩:=v7 N hok;simp only[qt,an3] at hok;obtain⟨⟨⟨⟨h1,h2⟩,h3⟩,h4⟩,h5⟩:=hok;have hnd:=lU h1;have hlt: ∀i,i∈ids->i<C.st.length:=ng h2;have hP1:d.P=C.P:=I.keeps.P;have hlen1:ids.length<=d.st.length:=by
  rcases Nat.eq_zero_or_pos ids.length with h|h
  ·omega
  ·have:=(I.refs (ids.length - 1) (by omega)).lt;omega
 have hml:(C.merge d ids).st.length=C.st.length+(d.st.length - ids.length):=sl _ _ _ _;have hidx: ∀k i,ids[k]? =some i->j8 i ids 0=some k:=fun k i h=>by
  obtain⟨j,U⟩:=oR (ids:=ids) 0 (List.mem_iff_getElem?.2 ⟨k,h⟩);obtain⟨k',e1,e2⟩:=r9 U;obtain rfl:j=k':=by omega
  obtain⟨_,e3⟩:=List.getElem?_eq_some_iff.1 h;obtain⟨_,e4⟩:=List.getElem?_eq_some_iff.1 e2;rw[U];congr 1
  exact(List.getElem_inj hnd).1 (e4.trans e3.symm)
 have hout: ∀i,i∉ids->j8 i ids 0=none:=fun i h=>by
  cases g:j8 i ids 0 with
  |none=>rfl
  |some j=>obtain⟨k,_,e⟩:=r9 g;exact absurd (List.mem_iff_getElem?.2 ⟨k,e⟩) h
 have O: ∀k i,ids[k]? =some i->au (C.merge d ids).st i=fp (kQ ids C.st.length) (au d.st k)/\(C.merge d ids).ι i=d.ι k:=fun k i h=>by
  have q:=hlt i (List.mem_iff_getElem?.2 ⟨k,h⟩);refine⟨CS _ _ _ _ k i hnd h q hlen1,?_⟩;simp only[Ctx.merge];rw[if_neg (by omega),hidx k i h]
 have Z: ∀j,ids.length<=j->au (C.merge d ids).st (C.st.length+(j - ids.length))=fp (kQ ids C.st.length) (au d.st j)/\(C.merge d ids).ι (C.st.length+(j - ids.length))=d.ι j:=fun j h=>by
  refine⟨zn _ _ _ _ j h hlen1,?_⟩;simp only[Ctx.merge];rw[if_pos (by omega)];congr 1;omega
 have c: ∀i,i<C.st.length->i∉ids->au (C.merge d ids).st i=au C.st i/\(C.merge d ids).ι i=C.ι i:=fun i q h=>by
  refine⟨tB _ _ _ _ i h q,?_⟩;simp only[Ctx.merge];rw[if_neg (by omega),hout i h]
 have hkm:bK d (C.merge d ids):=⟨hP1.symm,fun _ h=>h,fun _ _=>rfl⟩
 have toC: ∀(i j:Nat),i<(C.merge d ids).st.length->au (C.merge d ids).st i=fp (kQ ids C.st.length) (au d.st j)->(C.merge d ids).ι i=d.ι j->bW d (C.merge d ids) j i:=fun i j q H x=>by
  refine⟨q,fun T xs g=>?_,fun T a g=>?_,fun K V es g=>?_,fun r g=>?_,fun m n ks g=>?_,fun t g=>?_,fun s p g=>?_,fun K V ks vs met g=>?_,fun T E ls pd g=>?_⟩
  ·rw[H,Av] at g;exact⟨xs,g,x,Nat.le_refl _⟩
  ·rw[H] at g
   cases f:au d.st j<;>rw[f] at g<;>simp[fp] at g
   obtain⟨rfl,_⟩:=g;exact⟨_,rfl,x⟩
  ·rw[H] at g
   cases f:au d.st j<;>rw[f] at g<;>simp[fp] at g
   obtain⟨rfl,rfl,rfl⟩:=g;exact⟨_,rfl,x,fun ents clock hh=>⟨ents,clock,hh,eb.refl _ _⟩⟩
  ·rw[H] at g
   cases f:au d.st j<;>rw[f] at g<;>simp[fp] at g
   exact⟨_,rfl,x⟩
  ·rw[H] at g
   cases f:au d.st j<;>rw[f] at g<;>simp[fp] at g
   obtain⟨_,rfl,_⟩:=g;exact⟨_,_,rfl,x⟩
  ·rw[H] at g
   cases f:au d.st j<;>rw[f] at g<;>simp[fp] at g
   exact⟨_,rfl,x⟩
  ·rw[H] at g
   cases f:au d.st j<;>rw[f] at g<;>simp[fp] at g
   obtain⟨rfl,_⟩:=g;exact⟨_,rfl,x⟩
  ·rw[H] at g
   cases f:au d.st j<;>rw[f] at g<;>simp[fp] at g
   obtain⟨rfl,rfl,rfl,rfl,_⟩:=g;exact⟨_,rfl,x⟩
  ·rw[H] at g
   cases f:au d.st j<;>rw[f] at g<;>simp[fp] at g
   obtain⟨rfl,rfl,rfl,_⟩:=g;exact⟨_,_,rfl,x,rfl,fun _ _ _ h=>h⟩
 have hback: ∀j,j<d.st.length->∃i,kQ ids C.st.length j=some i/\bW d (C.merge d ids) j i:=fun j U=>by
  rcases Nat.lt_or_ge j ids.length with h|h
  ·have o:ids[j]? =some ids[j]:=by simp[h]
   have q:=hlt _ (List.getElem_mem h);exact⟨ids[j],IL o,toC _ _ (by omega) (O j _ o).1 (O j _ o).2⟩
  ·exact⟨_,IK h,toC _ _ (by omega) (Z j h).1 (Z j h).2⟩
 have Q: ∀b,Own (C.by ids) b->Own C b:=fun b y=>by
  rcases heb.gC b y with h|h
  ·exact h
  ·have:=(hIb.dA y).1;exact absurd this (by show ¬ b<C.w.heap.size;omega)
 have own1: ∀j,j<d.st.length->cv (d.ι j) (au d.st j)=true->(∃k i,ids[k]? =some i/\cv (C.ι i) (au C.st i)=true/\(C.ι i).block=(d.ι j).block)\/C.w.heap.size<=(d.ι j).block:=fun j U f=>by
  have hself:=L.eZ j U f;by_cases hlt1:(d.ι j).block<C.w.heap.size
  ·rcases I.gC _ (L.tI U f) with⟨k,o,F,u⟩|h
   ·rw[oA] at o
    have Y:ids[k]? =some ids[k]:=by simp[o]
    obtain⟨H,x⟩:=nk (C:=C) Y;rw[H,x,dG] at F;rw[x] at u;refine .inl ⟨k,_,Y,F,?_⟩;rcases I.cls (d.ι j).block with⟨h,_⟩|⟨h,_⟩
    ·rw[u,←h,hself]
    ·exact absurd hlt1 (by have h2:C.w.heap.size<=(d.ι j).block:=h;omega)
   ·exact .inr h
  ·exact .inr (by omega)
 have frame: ∀b,b<C.w.heap.size->(∀k i,ids[k]? =some i->cv (C.ι i) (au C.st i)=true->(C.ι i).block≠C.cls b)->d.w.heap[b]? =C.w.heap[b]? :=fun b y hn=>I.frame b y (fun f=>by
  obtain⟨k,o,F,u⟩:=f;rw[oA] at o;have Y:ids[k]? =some ids[k]:=by simp[o]
  obtain⟨H,x⟩:=nk (C:=C) Y;rw[H,x,dG] at F;rw[x] at u;exact hn k _ Y F u)
 have B: ∀i b,i<C.st.length->i∉ids->cv (C.ι i) (au C.st i)=true->C.cls b=(C.ι i).block->d.w.heap[b]? =C.w.heap[b]? :=fun i b q hn f y=>
  frame _ (N.dA ⟨i,q,f,y.symm⟩).1 (fun k j o D e=>N.u0 j i (hlt j (List.mem_iff_getElem?.2 ⟨k,o⟩)) q (fun e'=>hn (e'▸List.mem_iff_getElem?.2 ⟨k,o⟩)) D f (e.trans y))
 have frameOld: ∀i,i<C.st.length->i∉ids->cv (C.ι i) (au C.st i)=true->d.w.heap[(C.ι i).block]? =C.w.heap[(C.ι i).block]? :=fun i q hn f=>
  B i _ q hn f (N.eZ i q f)
 have hk0:bK C (C.merge d ids):=⟨rfl,fun b y=>I.keeps.X b y,fun b y=>I.keeps.heap b y⟩
 have notBy: ∀i,i<C.st.length->i∉ids->cv (C.ι i) (au C.st i)=true-> ¬ ∃k,k<(C.by ids).st.length/\cv ((C.by ids).ι k) (au (C.by ids).st k)=true/\((C.by ids).ι k).block=(C.ι i).block:=fun i q hn f ⟨k,o,F,u⟩=>by
  rw[oA] at o;have Y:ids[k]? =some ids[k]:=by simp[o]
  obtain⟨H,x⟩:=nk (C:=C) Y;rw[H,x,dG] at F;rw[x] at u;exact N.u0 _ i (hlt _ (List.getElem_mem o)) q (fun e=>hn (e▸List.getElem_mem o)) F f u
 have A: ∀i b,i<C.st.length->i∉ids->cv (C.ι i) (au C.st i)=true->(d.cls b=(C.ι i).block↔C.cls b=(C.ι i).block)/\(C.cls b=(C.ι i).block->d.s5 b=C.s5 b):=fun i b q hn f=>by
  have hil:=((N.obj i q).lt f).1;rcases I.cls b with⟨h,W⟩|⟨h,h2⟩
  ·rw[h];exact⟨Iff.rfl,fun _=>W⟩
  ·have W:C.w.heap.size<=b:=h
   refine⟨⟨?_,?_⟩,fun e=>?_⟩
   ·intro e
    exfalso
    rw[e] at h2;rcases h2 with⟨k,o,F,u⟩|h2
    ·refine notBy i q hn f ⟨k,o,F,?_⟩
     rw[u];exact N.eZ i q f
    ·have h3:C.w.heap.size<=(C.ι i).block:=h2
     omega
   ·intro e
    rw[N.fresh W] at e;omega
   ·rw[N.fresh W] at e;omega
 have hrefs: ∀i,i<C.st.length->bW C (C.merge d ids) i i:=fun i q=>by
  by_cases v:i∈ids
  ·obtain⟨k,o⟩:=List.mem_iff_getElem?.1 v
   have hkl:=(List.getElem?_eq_some_iff.1 o).1;exact((mB (C:=C) (hidx k i o)).trans (I.refs k hkl)).trans (toC i k (by omega) (O k i o).1 (O k i o).2)
  ·exact dW N q (by omega) (c i q v).1 (c i q v).2 (fun h b y=>⟨((A i b q v h).1.2 y).trans y.symm,(A i b q v h).2 y,B i b q v h y⟩)
 have J: ∀i,i<(C.merge d ids).st.length->(∃j,j<d.st.length/\au (C.merge d ids).st i=fp (kQ ids C.st.length) (au d.st j)/\(C.merge d ids).ι i=d.ι j/\((j<ids.length/\ids[j]? =some i)\/(ids.length<=j/\i=C.st.length+(j - ids.length))))\/
   (i<C.st.length/\i∉ids):=fun i q=>by
  rcases Nat.lt_or_ge i C.st.length with h|h
  ·by_cases v:i∈ids
   ·obtain⟨k,o⟩:=List.mem_iff_getElem?.1 v
    have hkl:=(List.getElem?_eq_some_iff.1 o).1;exact .inl ⟨k,by omega,(O k i o).1,(O k i o).2, .inl ⟨hkl,o⟩⟩
   ·exact .inr ⟨h,v⟩
  ·have e:i=C.st.length+((ids.length+(i - C.st.length)) - ids.length):=by omega
   have W:=Z (ids.length+(i - C.st.length)) (by omega);rw[←e] at W;exact .inl ⟨ids.length+(i - C.st.length),by omega,W.1,W.2, .inr ⟨by omega,e⟩⟩
 have disMix: ∀i j,i<C.st.length->i∉ids->cv (C.ι i) (au C.st i)=true->j<d.st.length->cv (d.ι j) (au d.st j)=true->(C.ι i).block≠(d.ι j).block:=fun i j q hn f U D e=>by
  rcases own1 j U D with⟨k,m,o,hom,y⟩|h
  ·exact N.u0 m i (hlt m (List.mem_iff_getElem?.2 ⟨k,o⟩)) q (fun e'=>hn (e'▸List.mem_iff_getElem?.2 ⟨k,o⟩)) hom f (y.trans e.symm)
  ·have:=((N.obj i q).lt f).1;omega
 refine⟨⟨N.lay,fun i q=>?_,fun i j q U hij z D=>?_,L.xs,fun i q z=>?_,L.ot,N.lR hk0⟩,⟨hk0,I.size,I.os,I.tape,I.output,fun b y hn=>frame b y (fun k i o f e=>hn ⟨i,hlt i (List.mem_iff_getElem?.2 ⟨k,o⟩),f,e⟩),fun b y=>?_,fun b y=>?_,hrefs,fun b=>?_,I.mv⟩,hback,hkm⟩
 ·rcases J i q with⟨j,U,H,x,_⟩|⟨h,v⟩
  ·rw[H,x]
   exact(L.obj j U).move hkm L.lay _ (fun k _ hkl=>hback k hkl) (L.eZ j U) ⟨fun b f y=>⟨(L.dA ⟨j,U,f,y.symm⟩).2,rfl⟩,fun _ _=>⟨Iff.rfl,fun _=>rfl⟩,dT.refl _,Nat.le_refl _,fun _ _=>rfl⟩
  ·rw[(c i h v).1,(c i h v).2]
   refine(N.obj i h).gr hk0 N.lay (fun k o _=>hrefs k o) (N.eZ i h) ⟨fun b f y=>⟨fun hX=>?_,B i b h v f y⟩,fun R b=>A i b h v (zo R),⟨I.os,I.tape,I.output⟩,I.size,fun _ _=>I.mv⟩;have hlo:=N.dA ⟨i,h,f,y.symm⟩;rcases I.qW _ hX with g|g|g
   ·exact hlo.2 g
   ·obtain⟨k,o,F,u⟩:=g
    exact notBy i h v f ⟨k,o,F,u.trans y⟩
   ·have h2:C.w.heap.size<=b:=g
    have:=hlo.1
    omega
 ·rcases J i q with⟨k,o,H,x,g3⟩|⟨h,v⟩<;>rcases J j U with⟨l,hl,g4,g5,g6⟩|⟨W,R⟩
  ·rw[H,x,dG] at z
   rw[g4,g5,dG] at D;rw[x,g5];refine L.u0 k l o hl (fun e=>hij ?_) z D;subst e;rcases g3 with⟨a1,a2⟩|⟨a1,a2⟩<;>rcases g6 with⟨a3,a4⟩|⟨a3,a4⟩
   ·rw[a2] at a4;exact Option.some.inj a4
   ·omega
   ·omega
   ·omega
  ·rw[H,x,dG] at z
   rw[(c j W R).1,(c j W R).2] at D;rw[x,(c j W R).2];exact(disMix j k W R D o z).symm
  ·rw[(c i h v).1,(c i h v).2] at z
   rw[g4,g5,dG] at D;rw[(c i h v).2,g5];exact disMix i l h v z hl D
  ·rw[(c i h v).1,(c i h v).2] at z
   rw[(c j W R).1,(c j W R).2] at D;rw[(c i h v).2,(c j W R).2];exact N.u0 i j h W hij z D
 ·rcases J i q with⟨j,U,H,x,_⟩|⟨h,v⟩
  ·rw[H,x,dG] at z
   rw[x];exact L.eZ j U z
  ·rw[(c i h v).1,(c i h v).2] at z
   rw[(c i h v).2];exact(A i _ h v z).1.2 (N.eZ i h z)
 ·rcases I.qW b y with h|h|h
  ·exact .inl h
  ·exact .inr (.inl (Q b h))
  ·exact .inr (.inr h)
 ·obtain⟨i,q,f,u⟩:=y
  rcases J i q with⟨j,U,H,x,_⟩|⟨h,v⟩
  ·rw[H,x,dG] at f
   rw[x] at u;rcases I.gC b ⟨j,U,f,u⟩ with h|h
   ·exact .inl (Q b h)
   ·exact .inr h
  ·rw[(c i h v).1,(c i h v).2] at f
   rw[(c i h v).2] at u;exact .inl ⟨i,h,f,((A i b h v f).1.1 u.symm).symm⟩
 ·rcases I.cls b with h|⟨h,h2⟩
  ·exact .inl h
  ·refine .inr ⟨h,?_⟩
   rcases h2 with h2|h2
   ·exact .inl (Q _ h2)
   ·exact .inr h2
theorem py{E}(t:aF E){f a st K}(h:rD E f a st K){C}(B:C.P=E.P)(l:Inv C)(k:C.st=st){g}(x:MT C a g.toList):
  (∃p,E.P.funcs[f]? =some p/\p.body.isSome=true)/\CallsIn Fence.wide 0 E.P f g C.w (eP C C.st.length K):=by
 subst k;obtain⟨d,h⟩:=ai.1 h;simp only[jO,nw,kW] at h;obtain⟨j,b⟩:=t.call _ _ _ _ h;refine⟨j,?_⟩;generalize o:reach C.st _ (df a) []=ids at*
 obtain⟨u,F,N⟩:=v7 l d;have m:=kr F.keeps l.lay (fun i=>j8 i ids 0) a g.toList (fun i J _=>by grind [mB]) x;refine(b (C.by ids) g B u rfl m).mono ?_;rintro e L ⟨v,r,z,rfl,rfl,A,c,s,n,y⟩;have H:(iy (fun i=>j8 i ids 0) (iw C.st ids)).length=ids.length:=by simp[jn,ku]
 rw[H] at n;obtain⟨D,I,O,q⟩:=JA l d c n;refine⟨v,_,C.merge z ids,rfl,rfl,rfl,D,?_,I,y⟩;exact s.move q c.lay _ (by grind)
theorem Ja{C}(c:Inv C){Ts a v}(b:Rel C a v):Rel C (LS C.P Ts a) v:=by
 unfold LS
 grind [Bv,cM,vm,yY]
theorem se{C s}(n:Inv C)(g:Ext C.st.length C s)(q:s.w=C.w): ∀l m r k,wU C.st l=some (m,r)->(∀i,i∈r->i<C.st.length->yl C i->s.X (C.ι i).block)->MT C l k->MT s m k
 |[],m,r,k,h,_,c=>by
  simp only[wU,an5,ao1] at h;obtain⟨rfl,_⟩:=h;simpa[MT] using c
 |_::_,_,_,[],_,_,c=>by simp[MT] at c
 | a ::l,m,r,v::k,h,o,c=>by
  simp only[MT] at c;have f:Rel C a v:=⟨c.1,c.2.1,c.2.2.1⟩
  simp only[wU] at h;split at h
  ·simp at h
  ·rename_i t p e
   split at h
   ·split at h
    ·rename_i b u
     simp only[an5,ao1] at h;obtain⟨rfl,rfl⟩:=h;have:=o7 n g.keeps q u (fun i j d x=>o i (List.mem_append_left _ j) d x) f
     simp only[MT];exact⟨this.1,this.2.1,this.2.2,se n g q l t p k e (fun i j=>o i (List.mem_append_right _ j)) c.2.2.2⟩
    ·simp at h
   ·split at h
    ·rename_i b u
     simp only[an5,ao1] at h;obtain⟨rfl,rfl⟩:=h;have:=o7 n g.keeps q u (fun i j d x=>o i (List.mem_append_left _ j) d x) f
     simp only[MT];exact⟨this.1,this.2.1,this.2.2,se n g q l t p k e (fun i j=>o i (List.mem_append_right _ j)) c.2.2.2⟩
    ·simp at h
   ·simp only[an5,ao1] at h
    obtain⟨rfl,rfl⟩:=h;have:=f.gr g.keeps n.lay (fun i _ d=>g.refs i d)
    simp only[MT];exact⟨this.1,this.2.1,this.2.2,se n g q l t _ k e o c.2.2.2⟩
end Go.Dn
