import Derived.Test.YtioeffnadipbaaaGreatDoorDoE
namespace Go.Dn
open Go
def ei(st:List Obj):List Nat->List Obj
 |[]=>st
 |i::l=>ei (dj st i .dead) l
theorem ph: ∀l st,(ei st l).length=st.length
 |[],_=>rfl
 |i::l,st=>by simp[ei];rw[ph l,a9]
theorem l6: ∀l st j,(j∈l->au (ei st l) j= .dead)/\(j∉l->au (ei st l) j=au st j)
 |[],st,j=>⟨by simp,fun _=>rfl⟩
 |i::l,st,j=>by
  obtain⟨b,a⟩:=l6 l (dj st i .dead) j
  grind [ei,bn,eC,a9,bw]
theorem LI{C}(hI:Inv C) ids:Inv {C with st:=ei C.st ids}/\Ext C.st.length C {C with st:=ei C.st ids}/\
  ∀b,Own {C with st:=ei C.st ids} b->∃i,i<C.st.length/\i∉ids/\cv (C.ι i) (au C.st i)=true/\(C.ι i).block=C.cls b:=by
 let C':Ctx:={C with st:=ei C.st ids}
 have hk:bK C C':=⟨rfl,fun _ h=>h,fun _ _=>rfl⟩
 have hlen:C'.st.length=C.st.length:=ph _ _;have hn: ∀j,j∉ids->au C'.st j=au C.st j:=fun j h=>(l6 ids C.st j).2 h
 have hd: ∀j,j∈ids->au C'.st j= .dead:=fun j h=>(l6 ids C.st j).1 h
 have hrefs: ∀j,j<C.st.length->bW C C' j j:=fun j hj=>by
  grind [tO,dW]
 have hown: ∀j,cv (C'.ι j) (au C'.st j)=true->j∉ids/\cv (C.ι j) (au C.st j)=true:=fun j h=>by
  by_cases hj:j∈ids
  ·rw[hd j hj] at h;simp[cv] at h
  ·rw[hn j hj] at h;exact⟨hj,h⟩
 have hO: ∀b,Own C' b->∃i,i<C.st.length/\i∉ids/\cv (C.ι i) (au C.st i)=true/\(C.ι i).block=C.cls b:=fun b ⟨i,hi,ho,hb⟩=>by
  grind
 refine⟨⟨hI.lay,fun j hj=>?_,fun j k hj hk' hjk hoj hok=>?_,hI.xs,fun j hj hoj=>?_,hI.ot,hI.lR hk⟩,⟨hk,Nat.le_refl _,rfl,rfl,rfl,fun _ _ _=>rfl,fun b hb=> .inl hb,fun b hb=>?_,hrefs,fun _=> .inl ⟨rfl,rfl⟩,rfl⟩,hO⟩
 ·rw[hlen] at hj
  by_cases h:j∈ids
  ·rw[hd j h];trivial
  ·rw[hn j h]
   exact(hI.obj j hj).gr hk hI.lay (fun j hj _=>hrefs j hj) (hI.eZ j hj) ⟨fun b ho hb=>⟨(hI.dA ⟨j,hj,ho,hb.symm⟩).2,rfl⟩,fun _ _=>⟨Iff.rfl,fun _=>rfl⟩,dT.refl _,Nat.le_refl _,fun _ _=>rfl⟩
 ·rw[hlen] at hj hk'
  exact hI.u0 j k hj hk' hjk (hown j hoj).2 (hown k hok).2
 ·rw[hlen] at hj
  exact hI.eZ j hj (hown j hoj).2
 ·obtain⟨i,h1,_,h3,h4⟩:=hO b hb
  exact .inl ⟨i,h1,h3,h4⟩
def Hc P st:=(si P (upto st.length) {bz:=[],st:=st}).st
def B1 P base st:=jc base (Hc P st) []
def tidy P base st Q:=
 aG (qt base (Hc P st) [] (B1 P base st)) (wx (iy (fun i=>j8 i (B1 P base st) 0) (iw (Hc P st) (B1 P base st))) Q)
theorem Il{C} P{base Q}(hI:Inv C)(hb:base<=C.st.length)(h:tidy P base C.st Q):
  ∃C',C'.w=C.w/\Inv C'/\Ext base C C'/\base<=C'.st.length/\Q C'.st:=by
 obtain⟨h1,h2⟩:=ai.1 h;rw[kW] at h2;have hs:dh C {bz:=[],st:=C.st} {tmps:= #[],defers:=[]}:=⟨rfl,rfl,by simp⟩
 obtain⟨C2,g1,g2,g3,g4⟩:=oU P _ hI hs;have hst:C2.st=Hc P _:=g3.st;rw[←hst] at h1 h2;obtain⟨k1,k2,k3⟩:=v7 g2 h1;refine⟨C2.by _,g1,k1,(g4.mono hb).trans k2 (Nat.le_refl _),k2.len,?_⟩;exact h2
def uT:List Obj->Prop
 | .ext (some [])::_=>True
 | .ext none::_=>True
 |_=>False
def AI:Obj->Bool
 | .loop _=>true
 |_=>false
def tK:Obj->Bool
 | .loop _=>false
 | .ext _=>false
 | .rows _ _ _ _=>false
 |_=>true
def rM(st:List Obj):List Nat->Bool
 |[]=>true
 |i::l=>tK (au st i)&&rM st l
theorem qn{st}: ∀{l},rM st l=true->∀i,i∈l->tK (au st i)=true
 |[],_,i,h=>by grind
 |j::l,h,i,a=>by
  simp[rM] at h;rcases List.mem_cons.1 a with rfl|a
  ·grind
  ·exact qn h.2 i a
def dc st a:=reach st (st.length*st.length+st.length+20) (df a) []
def kx(ids:List Nat)(i:Nat):Option Nat:=
 match j8 i ids 0 with
 |some k=>some (k+1)
 |none=>none
def qq st a:=
 qt 0 st (df a) (dc st a)&&rM st (dc st a)&&AI (au st (st.length - 1))&&decide (0<st.length)
structure Ai(E:Env)(N:Nat)(g:FuncId)(caps:List AV)(st:List Obj)(K:List Obj->Prop)(items:List AV)(I:List AV->List Obj->Prop):Prop where
 ok:qq st caps=true
 call:E.call g (.bJ 0::gG (kx (dc st caps)) caps) (.ext (some items)::iy (kx (dc st caps)) (iw st (dc st caps))) (fun _ st'=>uT st')
 start:tidy E.P st.length (ei st (dc st caps)) (I items)
 round: ∀as rest st',I (.aK as::rest) st'->jo (vc E N) (st.length - 1) as st' (fun r st''=>match r with
  | .lit (.bool true)=>tidy E.P st.length st'' (I rest)
  | .lit (.bool false)=>K st''
  |_=>False)
 last: ∀st',I [] st'->K st'
structure rJ(E:Env)(N:Nat)(g:FuncId)(caps:List AV)(st:List Obj)(K:List Obj->Prop)(items:List AV)(I:List AV->List Obj->Prop)(fl:List (Nat×Nat×TypeId)):Prop where
 ok:qq st caps=true
 call:E.call g (.bJ 0::gG (kx (dc st caps)) caps) (.ext (some items)::iy (kx (dc st caps)) (iw st (dc st caps))) (fun _ st'=>uT st')
 start:tidy E.P st.length (ei st (dc st caps)) fun st'=>I items (sj fl st')
 round: ∀as rest st',I (.aK as::rest) st'->jo (vc E N) (st.length - 1) as st' (fun r st''=>match r with
  | .lit (.bool true)=>tidy E.P st.length st'' (I rest)
  | .lit (.bool false)=>K st''
  |_=>False)
 last: ∀st',I [] st'->K st'
theorem Ai.toO{E N g b st K a I}(h:Ai E N g b st K a I):rJ E N g b st K a I []:=⟨h.ok,h.call,h.start,h.round,h.last⟩
theorem OH{C} P{base}{Q:List _->Prop} fl(hI:Inv C)(hb:base<=C.st.length)(h:tidy P base C.st fun st'=>Q (sj fl st')):
  ∃C',C'.w=C.w/\Inv C'/\Ext base C C'/\base<=C'.st.length/\Q C'.st:=by
 obtain⟨C1,t1,t2,t3,t4,t5⟩:=Il P hI hb h;obtain⟨C2,a1,_,a3,a4,a5⟩:=sk fl t2;have hlen:=a5.len;exact⟨_,a1.trans t1,a3,t3.trans a5 t4,by omega,by grind⟩
theorem Zp{A}(a:Inv A){X:Nat->Prop}(n: ∀b,Own A b-> ¬ X b)(l: ∀b,A.cls b≠b-> ¬ X b)(m: ∀b,X b->b<A.w.heap.size):
  Inv {A with X:=fun b=>A.X b\/X b}/\∀i,i<A.st.length->bW A {A with X:=fun b=>A.X b\/X b} i i:=by
 have k:bK A {A with X:=fun b=>A.X b\/X b}:=⟨rfl,by grind,by simp⟩
 have d: ∀i,i<A.st.length->bW A {A with X:=fun b=>A.X b\/X b} i i:=fun i g=>dW a g g rfl rfl (by simp)
 refine⟨⟨a.lay,fun j e=>?_,a.u0,fun b c=>c.elim (a.xs b) (m b),a.eZ,fun b c=>⟨(a.ot b c).1,fun f=>f.elim (a.ot b c).2.1 (l b c),(a.ot b c).2.2⟩,a.lR k⟩,d⟩;exact(a.obj j e).gr k a.lay (by grind) (a.eZ j e) ⟨fun b h c=>⟨fun f=>f.elim (a.dA ⟨j,e,h,c.symm⟩).2 (n b ⟨j,e,h,c.symm⟩),rfl⟩,by simp,dT.refl _,Nat.le_refl _,by simp⟩
structure Gv(P:Pg)(C:Ctx)(K:List Obj->Prop)(I:List AV->List Obj->Prop)(t:Option (List AV))(O X:Nat->Prop)(w:World)(A:Ctx):Prop where
 hw:A.w=w
 hP:A.P=P
 mv:A.mv=C.mv
 inv:Inv A
 xo: ∀b,A.X b->X b\/O b
 xc: ∀b,C.X b->A.X b
 own: ∀b,Own A b->O b
 cls: ∀b,A.cls b≠b->O b
 qW: ∀b,A.X b->X b\/Own C b\/C.w.heap.size<=b
 gC: ∀b,Own A b->Own C b\/C.w.heap.size<=b
 ab4: ∀b,(A.cls b=C.cls b/\A.s5 b=C.s5 b)\/(C.w.heap.size<=b/\(Own C (A.cls b)\/C.w.heap.size<=A.cls b))
 refs: ∀i,i<C.st.length->bW C A i i
 old: ∀b,C.cls b≠b-> ¬ Own C b->w.heap[b]? =C.w.heap[b]?
 size:C.w.heap.size<=w.heap.size
 val:match t with|some rest=>I rest A.st|none=>K A.st
theorem JO{E}(hE:aF E)(hM:aj E){N g caps C K items I fl}(hP:C.P=E.P)(h:rJ E N g caps C.st K items I fl)
  (hI:Inv C) {r} (_hl:au C.st (C.st.length - 1)= .loop r):Es E.P (C.ι (C.st.length - 1)).block fun t O X w=>∃A,Gv E.P C K I t O X w A/\∀b,O b->b<w.heap.size:=by
 have h0:0<C.st.length:=by
  have:=h.ok
  simp only[qq,an3,an2] at this;exact this.2
 refine⟨fun t O X X' w w' ⟨A,hA,hO⟩ hXX hOX o hos Z=>?_,fun as d O X w vs F n ⟨A,hA,hO⟩ hF hXl hOl Y hD=>?_⟩
 ·obtain⟨rfl,y,q,hAI,Q,V,f,l,hnX,s,L,m,x,p,B⟩:=hA
  obtain⟨g1,g2,g3⟩:=sK hAI (w:=w') Z (fun b a=>o b ((Q b a).symm.imp id id)) (fun b a=>o b (.inl (f b a))) hos;refine⟨{A with w:=w'},⟨rfl,y,q,g1,fun b a=>(Q b a).imp (hXX b) id,V,f,l,fun b a=>(hnX b a).imp (hXX b) id,s,L,fun i J=>(m i J).trans (g3 i (m i J).lt),fun b h1 H=>?_,Nat.le_trans p Z,B⟩,fun b a=>Nat.lt_of_lt_of_le (hO b a) Z⟩;refine(o b (.inl ?_)).trans (x b h1 H);rcases L b with⟨e,_⟩|⟨e,_⟩
  ·exact l b (by rw[e];exact h1)
  ·have:=(hI.ot b h1).1;omega
 ·obtain⟨rfl,y,q,hAI,Q,V,f,l,hnX,s,L,m,x,p,B⟩:=hA
  obtain⟨D,d1,d2,d3,d4⟩:=hD;obtain⟨g1,g2⟩:=Zp hAI (X:=X) (fun b a=>(hOl b (f b a)).2) (fun b a=>(hOl b (l b a)).2) hXl;have hr:=h.round as d A.st B;have hk:bK D {A with X:=fun b=>A.X b\/X b}:=⟨by rw[d1];exact y,fun b a=> .inr (by rw[←d2];exact a),fun b _=>by rw[d3]⟩
  have hlayD:eU D.P:=by rw[d1,←hP];exact hI.lay
  have hm:=kr hk hlayD some as vs.toList (fun i J=>by rw[Y] at J;simp at J) d4;rw[fQ] at hm;have hlA:C.st.length - 1<A.st.length:=by
   have:=(m (C.st.length - 1) (by omega)).lt
   omega
  obtain⟨hc,r1,hr1⟩:=uP (zV hE hM N) hr (C:={A with X:=fun b=>A.X b\/X b}) y g1 rfl hm hF n;have hB:(A.ι (C.st.length - 1)).block=(C.ι (C.st.length - 1)).block:=by
   obtain⟨r0,_,e⟩:=(m (C.st.length - 1) (by omega)).loop r1 hr1;rw[e]
  rw[←hB];refine rR hc ?_;rintro e w' ⟨v,rv,j,rfl,rfl,hP2,hI2,hrv,T,R⟩;have U:A.w.heap.size<=j.w.heap.size:=T.size;have W: ∀b,C.cls b≠b-> ¬ Own C b->j.w.heap[b]? =C.w.heap[b]? :=fun b h1 H=>by
   have a:=(hI.ot b h1).1;refine(T.frame b (by show b<A.w.heap.size;omega) (fun ho=>?_)).trans (x b h1 H);rcases s b ho with h3|h3
   ·exact H h3
   ·omega
  have mk: ∀(t:Option (List AV)) (k:Ctx),k.w=j.w->Inv k->Ext (C.st.length) j k->(match t with|some d=>I d k.st|none=>K k.st)->
    Gv E.P C K I t (fun b=>O b\/(A.w.heap.size<=b/\b<j.w.heap.size)) X j.w k:=by
   intro t k e1 u hx3 hv;have c:Ext C.st.length {A with X:=fun b=>A.X b\/X b} k:=(T.mono (by show C.st.length<=A.st.length;omega)).trans hx3 (Nat.le_refl _);have hnew: ∀b,Own k b->O b\/(A.w.heap.size<=b/\b<j.w.heap.size):=fun b a=>by
    rcases c.gC b a with h|h
    ·exact .inl (f b h)
    ·exact .inr ⟨h,by have:=(u.dA a).1;rw[e1] at this;exact this⟩
   refine⟨e1,c.keeps.P.trans y,c.mv.trans q,u,fun b a=>?_,fun b a=>c.keeps.X b (.inl (V b a)),hnew,fun b a=>?_,fun b a=>?_,fun b a=>?_,fun b=>?_,fun i J=>((m i J).trans (g2 i (m i J).lt)).trans (c.refs i J),W,Nat.le_trans p U,hv⟩
   ·rcases c.qW b a with h|h|h
    ·rcases h with h|h
     ·exact(Q b h).imp id .inl
     ·exact .inl h
    ·exact .inr (.inl (f b h))
    ·exact .inr (.inr ⟨h,by have:=u.xs b a;rw[e1] at this;exact this⟩)
   ·rcases c.cls b with⟨h,_⟩|⟨h,_⟩
    ·exact .inl (l b (by rw[h] at a;exact a))
    ·exact .inr ⟨h,by have:=(u.ot b a).1;rw[e1] at this;exact this⟩
   ·rcases c.qW b a with h|h|h
    ·rcases h with h|h
     ·exact hnX b h
     ·exact .inl h
    ·exact .inr (s b h)
    ·exact .inr (.inr (by have h':A.w.heap.size<=b:=h;omega))
   ·rcases c.gC b a with h|h
    ·exact s b h
    ·exact .inr (by have h':A.w.heap.size<=b:=h;omega)
   ·rcases c.cls b with⟨h,h'⟩|⟨h,H⟩
    ·rw[h,h'];exact L b
    ·refine .inr ⟨by have h':A.w.heap.size<=b:=h;omega,?_⟩
     rcases H with H|H
     ·exact s _ H
     ·exact .inr (by have h':A.w.heap.size<=k.cls b:=H;omega)
  have fin: ∀(rb:Bool) (k:Ctx),v= .bool rb->k.w=j.w->Inv k->Ext (C.st.length) j k->(match(if rb then some d else none:Option (List AV)) with|some d=>I d k.st|none=>K k.st)->
    ∃(r:Bool) (O':Nat->Prop),Ending.returned v= .returned (.bool r)/\(∃A',Gv E.P C K I (if r then some d else none) O' X j.w A'/\(∀b,O' b->b<j.w.heap.size))/\dT A.w j.w/\A.w.heap.size<=j.w.heap.size/\(∀b,b<A.w.heap.size-> ¬ O b->j.w.heap[b]? =A.w.heap[b]?)/\
     (∀b,O b->O' b)/\(∀b,O' b->O b\/A.w.heap.size<=b)/\(∀b,O' b->b<j.w.heap.size):=by
   intro rb k ev e1 u hx3 hv;have hO': ∀b,(O b\/(A.w.heap.size<=b/\b<j.w.heap.size))->b<j.w.heap.size:=fun b a=>by
    rcases a with a|a
    ·have:=hO b a;omega
    ·exact a.2
   exact⟨rb,fun b=>O b\/(A.w.heap.size<=b/\b<j.w.heap.size),by rw[ev],⟨k,mk _ k e1 u hx3 hv,hO'⟩,⟨T.os,T.tape,T.output⟩,U,fun b a hnb=>T.frame b a (fun ho=>hnb (f b ho)),fun b a=> .inl a,fun b a=>a.imp id (·.1),hO'⟩
  have z:C.st.length<=j.st.length:=by
   have h1:A.st.length<=j.st.length:=T.len;omega
  split at R
  ·have hv:=aL hrv
   obtain⟨k,t1,t2,t3,t4,t5⟩:=Il E.P hI2 z R;exact fin true k hv t1 t2 t3 t5
  ·have hv:=aL hrv
   exact fin false j hv rfl hI2 (Ext.refl j z) R
  ·exact R.elim
theorem PM{C D:Ctx}{ids o g}(b:D.st=o::iy (kx ids) (iw C.st ids))(a:D.ι=fun k=>match k with|0=>g|k+1=>C.ι (ids.getD k 0)){k i}(h:ids[k]? =some i):
  au D.st (k+1)=fp (kx ids) (au C.st i)/\D.ι (k+1)=C.ι i:=by grind [au,pW,tj]
theorem IV{C D ids k i}(f:k+1<D.st.length)(d:au D.st (k+1)=fp (kx ids) (au C.st i))(e:D.ι (k+1)=C.ι i)(l:D.w=C.w)(g:tK (au C.st i)=true):bW C D i (k+1):=by
 refine⟨f,fun T xs b=>?_,fun T a b=>?_,fun K V q b=>?_,fun r b=>?_,fun m n h b=>?_,fun t b=>?_,fun s p b=>?_,fun K V h o j b=>?_,fun T E u v b=>?_⟩
 ·rw[d,Av] at b;exact⟨xs,b,e,Nat.le_refl _⟩
 ·rw[d] at b
  cases c:au C.st i<;>rw[c] at b<;>simp[fp] at b
  obtain⟨rfl,_⟩:=b;exact⟨_,rfl,e⟩
 ·rw[d] at b
  cases c:au C.st i<;>rw[c] at b<;>simp[fp] at b
  grind [eb.refl]
 ·rw[d] at b
  cases c:au C.st i<;>rw[c] at b<;>simp[fp] at b
  exact⟨_,rfl,e⟩
 ·rw[d] at b
  cases c:au C.st i<;>rw[c] at b<;>simp[fp] at b
  obtain⟨_,rfl,_⟩:=b;exact⟨_,_,rfl,e⟩
 ·rw[d] at b
  cases c:au C.st i<;>rw[c] at b<;>simp[fp] at b
  exact⟨_,rfl,e⟩
 ·rw[d] at b
  cases c:au C.st i<;>rw[c] at b<;>simp[fp] at b
  obtain⟨rfl,_⟩:=b;exact⟨_,rfl,e⟩
 ·rw[d] at b
  cases c:au C.st i<;>rw[c] at b<;>simp[fp] at b
  obtain⟨rfl,rfl,rfl,rfl,_⟩:=b;exact⟨_,rfl,e⟩
 ·rw[d] at b
  cases c:au C.st i<;>rw[c] at b g<;>simp[fp] at b
  cases g
theorem CB{E}(hE:aF E)(hM:aj E){N g Q st K u I fl}(h:rJ E N g Q st K u I fl):
  bt E.P g (.bJ (st.length - 1)::Q) st fun _ st'=>K st':=by
 classical
 obtain⟨hfn,hsim⟩:=hE.call _ _ _ _ h.call;refine⟨hfn,fun C vs hP B hst V=>?_⟩;subst hst;have p:=h.ok;simp only[qq,an3,an2] at p;obtain⟨⟨⟨k1,k2⟩,k3⟩,k0⟩:=p;have q:=qn k2;have H:=h.start;generalize hids:dc C.st Q=ids at k1 k2 q H hsim
 simp only[qt,an3] at k1;obtain⟨⟨⟨⟨i1,i2⟩,i3⟩,i4⟩,i5⟩:=k1;have hnd:=lU i1;have L: ∀i,i∈ids->i<C.st.length:=ng i2;have hlr: ∃r,au C.st (C.st.length - 1)= .loop r:=by
  cases hx:au C.st (C.st.length - 1)<;>rw[hx] at k3<;>simp[AI] at k3
  exact⟨_,rfl⟩
 obtain⟨r,hl⟩:=hlr;have hlaw:=JO hE hM hP h B hl;have hll:C.st.length - 1<C.st.length:=by omega
 generalize hle:C.st.length - 1=l at*
 have hlids:l∉ids:=fun hmem=>by
  have:=q l hmem
  rw[hl] at this;simp[tK] at this
 have F:cv (C.ι l) (au C.st l)=true:=by rw[hl];rfl
 obtain⟨hBX,hBlt⟩: ¬ C.X (C.ι l).block/\(C.ι l).block<C.w.heap.size:=⟨((B.obj l hll).lt F).2,((B.obj l hll).lt F).1⟩
 have hBself:=B.eZ l hll F;obtain⟨hI0,hx0,hO0⟩:=LI B ids;generalize hC0:({C with st:=ei C.st ids}:Ctx)=C0 at hI0 hx0 hO0
 have e0:C0.w=C.w/\C0.X=C.X/\C0.cls=C.cls/\C0.ι=C.ι/\C0.mv=C.mv/\C0.st=ei C.st ids/\C0.s5=C.s5:=by subst hC0;exact⟨rfl,rfl,rfl,rfl,rfl,rfl,rfl⟩
 obtain⟨w0,X0,cls0,ι0,phi0,st0,elt0⟩:=e0;have hlen0:C.st.length<=C0.st.length:=hx0.len;rw[←st0] at H;obtain⟨C2,t1,t2,t3,t4,t5⟩:=OH E.P fl hI0 hlen0 H;have hw2:C2.w=C.w:=t1.trans w0;have n: ∀b,Own C0 b->Own C b:=fun b a=>by
  obtain⟨i,a1,_,a3,a4⟩:=hO0 b a;exact⟨i,a1,a3,a4⟩
 let O:Nat->Prop:=fun b=>Own C0 b\/C.cls b≠b
 have hBO:O (C.ι l).block:= .inl ⟨l,by omega,by rw[st0,ι0,(l6 ids C.st l).2 hlids];exact F,by rw[ι0,cls0];exact hBself.symm⟩;have hnO: ∀i,i∈ids->cv (C.ι i) (au C.st i)=true-> ¬ O (C.ι i).block:=fun i hi ho o=>by
  have hs:=B.eZ i (L i hi) ho;rcases o with o|o
  ·obtain⟨j,a1,a2,a3,a4⟩:=hO0 _ o
   rw[hs] at a4;exact B.u0 j i a1 (L i hi) (fun e=>a2 (e▸hi)) a3 ho a4
  ·exact o hs
 have U: ∀b,O b->b<C.w.heap.size/\ ¬ C.X b:=fun b a=>by
  rcases a with a|a
  ·exact B.dA (n b a)
  ·exact⟨(B.ot b a).1,(B.ot b a).2.1⟩
 let Φ:Option (List AV)->(Nat->Prop)->(Nat->Prop)->World->Prop:=fun t O X w=>∃A,Gv E.P C K I t O X w A/\(∀b,O b->b<w.heap.size)
 let ιD:Nat->G:=fun k=>match k with|0=>⟨(C.ι l).block,0,false⟩|k+1=>C.ι (ids.getD k 0)
 let clsD:Nat->Nat:=fun b=>if O b then(C.ι l).block else b
 let D:Ctx:={P:=C.P,X:=C.X,w:=C.w,st:= .ext (some u)::iy (kx ids) (iw C.st ids),ι:=ιD,cls:=clsD,mv:=(fun _=>Φ)}
 have x: ∀b,D.cls b=(C.ι l).block↔O b:=fun b=>by
  show(if O b then(C.ι l).block else b)=(C.ι l).block↔O b
  by_cases a:O b
  ·rw[if_pos a];exact⟨fun _=>a,fun _=>rfl⟩
  ·rw[if_neg a];exact⟨fun e=>by rw[e];exact hBO,fun h=>absurd h a⟩
 have R: ∀b,¬ O b->D.cls b=b:=fun b a=>if_neg a
 have hk:bK C D:=⟨rfl,fun _ h=>h,fun _ _=>rfl⟩
 have hlenD:D.st.length=ids.length+1:=by simp[D,jn,ku]
 have d: ∀k i,ids[k]? =some i->au D.st (k+1)=fp (kx ids) (au C.st i)/\D.ι (k+1)=C.ι i:=fun k i Y=>PM (C:=C) (D:=D) rfl rfl Y
 have href: ∀k i,ids[k]? =some i->bW C D i (k+1):=fun k i Y=>by
  have:=(List.getElem?_eq_some_iff.1 Y).1
  exact IV (by omega) (d k i Y).1 (d k i Y).2 rfl (q i (List.mem_iff_getElem?.2 ⟨k,Y⟩))
 have hidx: ∀j,j∈ids->∃m,kx ids j=some (m+1)/\ids[m]? =some j:=fun j hj=>by
  obtain⟨m,V⟩:=oR (ids:=ids) 0 hj;obtain⟨m',e,hm'⟩:=r9 V;have e':m=m':=by omega
  subst e';exact⟨m,by simp only[kx,V],hm'⟩
 have s: ∀k,k<D.st.length->k=0\/ ∃m i,k=m+1/\ids[m]? =some i/\i∈ids:=fun k hk=>by
  cases k with
  |zero=>exact .inl rfl
  |succ m=>
   have V:m<ids.length:=by omega
   exact .inr ⟨m,ids[m],rfl,by simp[V],List.getElem_mem V⟩
 have hD0:au D.st 0= .ext (some u):=rfl;have hID:Inv D:=by
  refine⟨B.lay,fun k T=>?_,fun j k hj T hjk hoj p=>?_,B.xs,fun k T p=>?_,fun b a=>?_,B.lR hk⟩
  ·rcases s k T with rfl|⟨m,i,rfl,f,c⟩
   ·rw[hD0]
    refine⟨hBX,hBlt,?_,by show Es C.P _ _;rw[hP];exact hlaw⟩;show Φ (some u) (fun b=>D.cls b=(C.ι l).block) C.X C.w
    rw[show(fun b=>D.cls b=(C.ι l).block)=O from funext fun b=>propext (x b)];refine⟨C2,⟨hw2,t3.keeps.P.trans ((show C0.P=C.P by subst hC0;rfl).trans hP),t3.mv.trans phi0,t2,fun b a=>?_,fun b a=>t3.keeps.X b (by rw[X0];exact a),fun b a=>?_,fun b a=>?_,fun b a=>?_,fun b a=>?_,fun b=>?_,fun i hi=>(hx0.refs i hi).trans (t3.refs i hi),fun _ _ _=>rfl,Nat.le_refl _,t5⟩,fun b a=>(U b a).1⟩
    ·rcases t3.qW b a with h|h|h
     ·exact .inl (by rw[←X0];exact h)
     ·exact .inr (.inl h)
     ·have:=t2.xs b a;rw[t1] at this;omega
    ·rcases t3.gC b a with h|h
     ·exact .inl h
     ·have:=(t2.dA a).1;rw[t1] at this;omega
    ·rcases t3.cls b with⟨h,_⟩|⟨h,_⟩
     ·exact .inr (by rw[h,cls0] at a;exact a)
     ·have:=(t2.ot b a).1;rw[t1] at this;omega
    ·rcases t3.qW b a with h|h|h
     ·exact .inl (by rw[←X0];exact h)
     ·exact .inr (.inl (n b h))
     ·exact .inr (.inr (by rw[w0] at h;exact h))
    ·rcases t3.gC b a with h|h
     ·exact .inl (n b h)
     ·exact .inr (by rw[w0] at h;exact h)
    ·rcases t3.cls b with⟨h,Z⟩|⟨h,h2⟩
     ·exact .inl ⟨by rw[h,cls0],by rw[Z,elt0]⟩
     ·rw[w0] at h h2
      exact .inr ⟨h,h2.imp (n _) id⟩
   ·rw[(d m i f).1,(d m i f).2]
    have hp:=q i c;refine(B.obj i (L i c)).move hk B.lay _ (fun j hj hjl=>?_) (B.eZ i (L i c)) ⟨fun b ho a=>⟨(B.dA ⟨i,L i c,ho,a.symm⟩).2,rfl⟩,fun e=>?_,dT.refl _,Nat.le_refl _,fun t e=>?_⟩
    ·have hjm:j∈ids:=kP i5 j (ri c hj)
     obtain⟨m',e1,e2⟩:=hidx j hjm;exact⟨m'+1,e1,href m' j e2⟩
    ·cases hx:au C.st i<;>rw[hx] at hp e<;>simp[A6] at e<;>simp[tK] at hp
    ·rw[e] at hp;simp[tK] at hp
  ·rcases s j hj with rfl|⟨m,i,rfl,f,c⟩<;>rcases s k T with rfl|⟨m',i',rfl,y,W⟩
   ·exact absurd rfl hjk
   ·rw[(d m' i' y).1,(d m' i' y).2,dG] at p
    rw[(d m' i' y).2];exact fun e=>hnO i' W p (by have e':(C.ι l).block=(C.ι i').block:=e;rw[←e'];exact hBO)
   ·rw[(d m i f).1,(d m i f).2,dG] at hoj
    rw[(d m i f).2];exact fun e=>hnO i c hoj (by have e':(C.ι i).block=(C.ι l).block:=e;rw[e'];exact hBO)
   ·rw[(d m i f).1,(d m i f).2,dG] at hoj
    rw[(d m' i' y).1,(d m' i' y).2,dG] at p;rw[(d m i f).2,(d m' i' y).2];refine B.u0 i i' (L i c) (L i' W) (fun e=>hjk ?_) hoj p;subst e;obtain⟨_,e1⟩:=List.getElem?_eq_some_iff.1 f;obtain⟨_,e2⟩:=List.getElem?_eq_some_iff.1 y;have:=(List.getElem_inj hnd).1 (e1.trans e2.symm)
    rw[this]
  ·rcases s k T with rfl|⟨m,i,rfl,f,c⟩
   ·exact(x _).2 hBO
   ·rw[(d m i f).1,(d m i f).2,dG] at p
    rw[(d m i f).2];exact R _ (hnO i c p)
  ·have o:O b:=by
    by_cases o:O b
    ·exact o
    ·exact absurd (R b o) a
   exact⟨(U b o).1,(U b o).2,by rw[(x b).2 o];exact hBlt⟩
 have ownD: ∀b,Own D b->O b\/Own C b:=fun b ⟨k,T,p,a⟩=>by
  rcases s k T with rfl|⟨m,i,rfl,f,c⟩
  ·exact .inl ((x b).1 a.symm)
  ·rw[(d m i f).1,(d m i f).2,dG] at p
   rw[(d m i f).2] at a;by_cases o:O b
   ·exact .inl o
   ·rw[R b o] at a
    exact .inr (by rw[←a];exact B.tI (L i c) p)
 have hmD:MT D (.bJ 0::gG (kx ids) Q) vs.toList:=by
  cases hv:vs.toList with
  |nil=>rw[hv] at V;simp[MT] at V
  | cons v vs'=>
   rw[hv] at V;simp only[MT] at V⊢;have hy:=(Bx (⟨V.1,V.2.1,V.2.2.1⟩:Rel C (.bJ l) v)).2.1 r hl;subst hy;refine⟨.inl rfl, .inl (by simp[Value.cells,wid]),?_,kr hk B.lay _ Q vs' (fun i hi _=>?_) V.2.2.2⟩
   ·simp only[M]
    have hY:yK D 0 (.func (.yield (C.ι l).block) #[] #[]):=⟨fun r' hr'=>(by have h2:Obj.ext (some u)=Obj.loop r':=hr';cases h2),fun _ _=>rfl⟩
    exact⟨by omega,_,rfl,rfl,hY⟩
   ·obtain⟨m,e1,e2⟩:=hidx i (kP i4 i hi)
    exact⟨m+1,e1,href m i e2⟩
 refine(hsim D vs (show C.P=E.P from hP) hID rfl hmD).mono ?_;rintro e w' ⟨v,rv,C3,rfl,rfl,hP3,hI3,hr3,z,hK3⟩;have key: ∀t,au C3.st 0= .ext t->(t=some []\/t=none)->0<C3.st.length->eP C C.st.length (fun _ st'=>K st') (.returned v) C3.w:=by
  intro t h0 ht hpos;have hob:=hI3.obj 0 hpos;rw[h0] at hob;obtain⟨hX3,hB3,hphi3,_⟩:=hob;have hι3:(C3.ι 0).block=(C.ι l).block:=by
   obtain⟨t',_,e⟩:=(z.refs 0 (by show 0<D.st.length;omega)).ext t h0;rw[e]
  rw[show C3.mv=D.mv from z.mv,hι3] at hphi3;have hown3: ∀b,C3.cls b=(C.ι l).block->Own C3 b:=fun b a=>⟨0,hpos,by rw[h0];rfl,by rw[hι3,a]⟩
  obtain⟨A,J,hAO⟩:=hphi3;have hOX: ∀b,O b-> ¬ C3.X b:=fun b a hx=>by
   rcases z.cls b with⟨Z,_⟩|⟨Z,_⟩
   ·exact(hI3.dA (hown3 b (Z.trans ((x b).2 a)))).2 hx
   ·have h2:C.w.heap.size<=b:=Z
    have:=(U b a).1
    omega
  refine⟨v, .cK,A,rfl,J.hw,J.hP.trans hP.symm,J.inv,mQ v,⟨⟨J.hP.trans hP.symm,J.xc,fun b a=>by rw[J.hw];exact z.keeps.heap b a⟩,by rw[J.hw];exact z.size,by rw[J.hw];exact z.os,by rw[J.hw];exact z.tape,by rw[J.hw];exact z.output,
   fun b a hnb=>?_,fun b a=>?_,J.gC,J.refs,J.ab4,J.mv⟩,?_⟩
  ·rw[J.hw]
   by_cases hf:C.cls b=b
   ·refine z.frame b a (fun hod=>?_)
    rcases ownD b hod with o|o
    ·rcases o with o|o
     ·exact hnb (n b o)
     ·exact o hf
    ·exact hnb o
   ·exact J.old b hf hnb
  ·rcases J.qW b a with Z|Z|Z
   ·rcases z.qW b Z with h2|h2|h2
    ·exact .inl h2
    ·rcases ownD b h2 with o|o
     ·exact absurd Z (hOX b o)
     ·exact .inr (.inl o)
    ·exact .inr (.inr h2)
   ·exact .inr (.inl Z)
   ·exact .inr (.inr Z)
  ·have hv:=J.val
   rcases ht with rfl|rfl
   ·exact h.last _ hv
   ·exact hv
 unfold uT at hK3;split at hK3
 ·rename_i o' heq
  exact key (some []) (by rw[heq];rfl) (.inl rfl) (by rw[heq];simp)
 ·rename_i o' heq
  exact key none (by rw[heq];rfl) (.inr rfl) (by rw[heq];simp)
 ·exact hK3.elim
abbrev fJ:=List AV->List Obj->(List Obj->Prop)->Prop
def fJ.gA(sp:fJ):=∀a st K b,(∀st,K st->b st)->sp a st K->sp a st b
def nc E(N g:Nat)(sp:fJ):=∀a st K,sp a st K->∃b I,Ai E N g a st K b I
def Env.addRange(E:Env)(f k g:Nat)(sp:fJ):=
 {E with lB:=fun c b d a st K=>bif Nat.beq c f&&(Nat.beq b k&&Nat.beq d g) then sp a st K else E.lB c b d a st K}
theorem aj.addRange{E}(a:aj E){f k g sp}(e:sp.gA):aj (E.addRange f k g sp):=by
 refine⟨a.call,a.loop,fun j m i d st K l c h=>?_⟩;simp only[Env.addRange] at h⊢;cases b:Nat.beq _ f&&(Nat.beq _ k&&Nat.beq _ g) with
 |true=>rw[b] at h;exact e _ _ _ _ c h
 |false=>rw[b] at h;exact a.lB _ _ _ _ _ _ _ c h
theorem aF.addRange{E}(a:aF E)(j:aj E){N f k g sp}(h:nc E N g sp):aF (E.addRange f k g sp):=by
 refine⟨a.prog,a.fN,a.call,fun l m n e st K b=>?_,a.loop⟩;simp only[Env.addRange] at b;cases c:Nat.beq _ f&&(Nat.beq _ k&&Nat.beq _ g) with
 |true=>
  rw[c] at b;simp only[an3] at c;obtain rfl:=Nat.eq_of_beq_eq_true c.2.2;obtain⟨d,I,i⟩:=h _ _ _ b;exact CB a j i.toO
 |false=>rw[c] at b;exact a.lB _ _ _ _ _ _ b
def vL E(N g:Nat) c(sp:fJ):=∀a st K,sp a st K->∃b I,rJ E N g a st K b I c
theorem aF.II{E}(a:aF E)(l:aj E){N f k g j sp}(h:vL E N g j sp):aF (E.addRange f k g sp):=by
 refine⟨a.prog,a.fN,a.call,fun n o m e st K b=>?_,a.loop⟩;simp only[Env.addRange] at b;cases c:Nat.beq _ f&&(Nat.beq _ k&&Nat.beq _ g) with
 |true=>
  rw[c] at b;simp only[an3] at c;obtain rfl:=Nat.eq_of_beq_eq_true c.2.2;obtain⟨d,I,i⟩:=h _ _ _ b;exact CB a l i
 |false=>rw[c] at b;exact a.lB _ _ _ _ _ _ b
def Env.dO(E:Env) gen:={E with gen:=gen}
theorem aF.dO{E}(a:aF E) b:aF (E.dO b):=⟨a.prog,a.fN,a.call,a.lB,a.loop⟩
theorem aj.dO{E}(b:aj E) a:aj (E.dO a):=⟨b.call,b.loop,b.lB⟩
end Go.Dn
