import Derived.Test.YtioeffnadipbaaaGreatDoorDoE
namespace Go.Dn
open Go
def dF(st:List Obj):List Nat->List Obj
 |[]=>st
 |i::l=>dF (dv st i .dead) l
theorem pT: ∀l st,(dF st l).length=st.length
 |[],_=>rfl
 |i::l,st=>by simp[dF];rw[pT l,bc]
theorem mA: ∀l st j,(j∈l->ay (dF st l) j= .dead)/\(j∉l->ay (dF st l) j=ay st j)
 |[],st,j=>⟨by simp,fun _=>rfl⟩
 |i::l,st,j=>by
  obtain⟨b,a⟩:=mA l (dv st i .dead) j
  grind [dF,bw,fk,bc,bJ]
theorem On{C}(hI:Inv C) ids:Inv {C with st:=dF C.st ids}/\Ext C.st.length C {C with st:=dF C.st ids}/\
  ∀b,Own {C with st:=dF C.st ids} b->∃i,i<C.st.length/\i∉ids/\cC (C.ι i) (ay C.st i)=true/\(C.ι i).block=C.cls b:=by
 let C':Ctx:={C with st:=dF C.st ids}
 have hk:bW C C':=⟨rfl,fun _ h=>h,fun _ _=>rfl⟩
 have hlen:C'.st.length=C.st.length:=pT _ _;have hn: ∀j,j∉ids->ay C'.st j=ay C.st j:=fun j h=>(mA ids C.st j).2 h
 have hd: ∀j,j∈ids->ay C'.st j= .dead:=fun j h=>(mA ids C.st j).1 h
 have hrefs: ∀j,j<C.st.length->cj C C' j j:=fun j hj=>by
  grind [uF,eQ]
 have hown: ∀j,cC (C'.ι j) (ay C'.st j)=true->j∉ids/\cC (C.ι j) (ay C.st j)=true:=fun j h=>by
  by_cases hj:j∈ids
  ·rw[hd j hj] at h;simp[cC] at h
  ·rw[hn j hj] at h;exact⟨hj,h⟩
 have hO: ∀b,Own C' b->∃i,i<C.st.length/\i∉ids/\cC (C.ι i) (ay C.st i)=true/\(C.ι i).block=C.cls b:=fun b ⟨i,hi,ho,hb⟩=>by
  grind
 refine⟨⟨hI.lay,fun j hj=>?_,fun j k hj hk' hjk hoj hok=>?_,hI.xs,fun j hj hoj=>?_,hI.oX,hI.mo hk⟩,⟨hk,Nat.le_refl _,rfl,rfl,rfl,fun _ _ _=>rfl,fun b hb=> .inl hb,fun b hb=>?_,hrefs,fun _=> .inl ⟨rfl,rfl⟩,rfl⟩,hO⟩
 ·rw[hlen] at hj
  by_cases h:j∈ids
  ·rw[hd j h];trivial
  ·rw[hn j h]
   exact(hI.obj j hj).gI hk hI.lay (fun j hj _=>hrefs j hj) (hI.fz j hj) ⟨fun b ho hb=>⟨(hI.dG ⟨j,hj,ho,hb.symm⟩).2,rfl⟩,fun _ _=>⟨Iff.rfl,fun _=>rfl⟩,er.refl _,Nat.le_refl _,fun _ _=>rfl⟩
 ·rw[hlen] at hj hk'
  exact hI.tH j k hj hk' hjk (hown j hoj).2 (hown k hok).2
 ·rw[hlen] at hj
  exact hI.fz j hj (hown j hoj).2
 ·obtain⟨i,h1,_,h3,h4⟩:=hO b hb
  exact .inl ⟨i,h1,h3,h4⟩
def JF P st:=(sM P (upto st.length) {bF:=[],st:=st}).st
def DA P base st:=jC base (JF P st) []
def tidy P base st Q:=
 aW (qY base (JF P st) [] (DA P base st)) (xD (gJ (fun i=>kD i (DA P base st) 0) (gF (JF P st) (DA P base st))) Q)
theorem KP{C} P{base Q}(hI:Inv C)(hb:base<=C.st.length)(h:tidy P base C.st Q):
  ∃C',C'.w=C.w/\Inv C'/\Ext base C C'/\base<=C'.st.length/\Q C'.st:=by
 obtain⟨h1,h2⟩:=ai.1 h;rw[lF] at h2;have hs:dr C {bF:=[],st:=C.st} {tmps:= #[],defers:=[]}:=⟨rfl,rfl,by simp⟩
 obtain⟨C2,g1,g2,g3,g4⟩:=pD P _ hI hs;have hst:C2.st=JF P _:=g3.st;rw[←hst] at h1 h2;obtain⟨k1,k2,k3⟩:=xi g2 h1;refine⟨C2.by _,g1,k1,(g4.mono hb).trans k2 (Nat.le_refl _),k2.len,?_⟩;exact h2
def tv:List Obj->Prop
 | .ext (some [])::_=>True
 | .ext none::_=>True
 |_=>False
def Jv:Obj->Bool
 | .loop _=>true
 |_=>false
def uC:Obj->Bool
 | .loop _=>false
 | .ext _=>false
 | .rows _ _ _ _=>false
 |_=>true
def sd(st:List Obj):List Nat->Bool
 |[]=>true
 |i::l=>uC (ay st i)&&sd st l
theorem qU{st}: ∀{l},sd st l=true->∀i,i∈l->uC (ay st i)=true
 |[],_,i,h=>by grind
 |j::l,h,i,a=>by
  simp[sd] at h;rcases List.mem_cons.1 a with rfl|a
  ·grind
  ·exact qU h.2 i a
def b7 st a:=reach st (st.length*st.length+st.length+20) (df a) []
def iX(ids:List Nat)(i:Nat):Option Nat:=
 match kD i ids 0 with
 |some k=>some (k+1)
 |none=>none
def mi st a:=
 qY 0 st (df a) (b7 st a)&&sd st (b7 st a)&&Jv (ay st (st.length - 1))&&decide (0<st.length)
structure BA(E:Env)(N:Nat)(g:FuncId)(caps:List AV)(st:List Obj)(K:List Obj->Prop)(items:List AV)(I:List AV->List Obj->Prop):Prop where
 ok:mi st caps=true
 call:E.call g (.cn 0::gf (iX (b7 st caps)) caps) (.ext (some items)::gJ (iX (b7 st caps)) (gF st (b7 st caps))) (fun _ st'=>tv st')
 start:tidy E.P st.length (dF st (b7 st caps)) (I items)
 round: ∀as rest st',I (.aH as::rest) st'->gx (vc E N) (st.length - 1) as st' (fun r st''=>match r with
  | .lit (.bool true)=>tidy E.P st.length st'' (I rest)
  | .lit (.bool false)=>K st''
  |_=>False)
 last: ∀st',I [] st'->K st'
structure wY(E:Env)(N:Nat)(g:FuncId)(caps:List AV)(st:List Obj)(K:List Obj->Prop)(items:List AV)(I:List AV->List Obj->Prop)(fl:List (Nat×Nat×TypeId)):Prop where
 ok:mi st caps=true
 call:E.call g (.cn 0::gf (iX (b7 st caps)) caps) (.ext (some items)::gJ (iX (b7 st caps)) (gF st (b7 st caps))) (fun _ st'=>tv st')
 start:tidy E.P st.length (dF st (b7 st caps)) fun st'=>I items (yl fl st')
 round: ∀as rest st',I (.aH as::rest) st'->gx (vc E N) (st.length - 1) as st' (fun r st''=>match r with
  | .lit (.bool true)=>tidy E.P st.length st'' (I rest)
  | .lit (.bool false)=>K st''
  |_=>False)
 last: ∀st',I [] st'->K st'
theorem BA.toO{E N g b st K a I}(h:BA E N g b st K a I):wY E N g b st K a I []:=⟨h.ok,h.call,h.start,h.round,h.last⟩
theorem RN{C} P{base}{Q:List _->Prop} fl(hI:Inv C)(hb:base<=C.st.length)(h:tidy P base C.st fun st'=>Q (yl fl st')):
  ∃C',C'.w=C.w/\Inv C'/\Ext base C C'/\base<=C'.st.length/\Q C'.st:=by
 obtain⟨C1,t1,t2,t3,t4,t5⟩:=KP P hI hb h;obtain⟨C2,a1,_,a3,a4,a5⟩:=sO fl t2;have hlen:=a5.len;exact⟨_,a1.trans t1,a3,t3.trans a5 t4,by omega,by grind⟩
theorem ar3{A}(a:Inv A){X:Nat->Prop}(n: ∀b,Own A b-> ¬ X b)(l: ∀b,A.cls b≠b-> ¬ X b)(m: ∀b,X b->b<A.w.heap.size):
  Inv {A with X:=fun b=>A.X b\/X b}/\∀i,i<A.st.length->cj A {A with X:=fun b=>A.X b\/X b} i i:=by
 have k:bW A {A with X:=fun b=>A.X b\/X b}:=⟨rfl,by grind,by simp⟩
 have d: ∀i,i<A.st.length->cj A {A with X:=fun b=>A.X b\/X b} i i:=fun i g=>eQ a g g rfl rfl (by simp)
 refine⟨⟨a.lay,fun j e=>?_,a.tH,fun b c=>c.elim (a.xs b) (m b),a.fz,fun b c=>⟨(a.oX b c).1,fun f=>f.elim (a.oX b c).2.1 (l b c),(a.oX b c).2.2⟩,a.mo k⟩,d⟩;exact(a.obj j e).gI k a.lay (by grind) (a.fz j e) ⟨fun b h c=>⟨fun f=>f.elim (a.dG ⟨j,e,h,c.symm⟩).2 (n b ⟨j,e,h,c.symm⟩),rfl⟩,by simp,er.refl _,Nat.le_refl _,by simp⟩
structure I0(P:Pg)(C:Ctx)(K:List Obj->Prop)(I:List AV->List Obj->Prop)(t:Option (List AV))(O X:Nat->Prop)(w:World)(A:Ctx):Prop where
 hw:A.w=w
 hP:A.P=P
 mX:A.mX=C.mX
 inv:Inv A
 xo: ∀b,A.X b->X b\/O b
 xc: ∀b,C.X b->A.X b
 own: ∀b,Own A b->O b
 cls: ∀b,A.cls b≠b->O b
 rH: ∀b,A.X b->X b\/Own C b\/C.w.heap.size<=b
 gT: ∀b,Own A b->Own C b\/C.w.heap.size<=b
 as7: ∀b,(A.cls b=C.cls b/\A.tI b=C.tI b)\/(C.w.heap.size<=b/\(Own C (A.cls b)\/C.w.heap.size<=A.cls b))
 refs: ∀i,i<C.st.length->cj C A i i
 old: ∀b,C.cls b≠b-> ¬ Own C b->w.heap[b]? =C.w.heap[b]?
 size:C.w.heap.size<=w.heap.size
 val:match t with|some rest=>I rest A.st|none=>K A.st
theorem Mm{E}(hE:aE E)(hM:aj E){N g caps C K items I fl}(hP:C.P=E.P)(h:wY E N g caps C.st K items I fl)
  (hI:Inv C) {r} (_hl:ay C.st (C.st.length - 1)= .loop r):Gz E.P (C.ι (C.st.length - 1)).block fun t O X w=>∃A,I0 E.P C K I t O X w A/\∀b,O b->b<w.heap.size:=by
 have h0:0<C.st.length:=by
  have:=h.ok
  simp only[mi,aC6,at3] at this;exact this.2
 refine⟨fun t O X X' w w' ⟨A,hA,hO⟩ hXX hOX o hos Z=>?_,fun as d O X w vs F n ⟨A,hA,hO⟩ hF hXl hOl Y hD=>?_⟩
 ·obtain⟨rfl,y,q,hAI,Q,V,f,l,hnX,s,L,m,x,p,B⟩:=hA
  obtain⟨g1,g2,g3⟩:=tk hAI (w:=w') Z (fun b a=>o b ((Q b a).symm.imp id id)) (fun b a=>o b (.inl (f b a))) hos;refine⟨{A with w:=w'},⟨rfl,y,q,g1,fun b a=>(Q b a).imp (hXX b) id,V,f,l,fun b a=>(hnX b a).imp (hXX b) id,s,L,fun i J=>(m i J).trans (g3 i (m i J).lt),fun b h1 H=>?_,Nat.le_trans p Z,B⟩,fun b a=>Nat.lt_of_lt_of_le (hO b a) Z⟩;refine(o b (.inl ?_)).trans (x b h1 H);rcases L b with⟨e,_⟩|⟨e,_⟩
  ·exact l b (by rw[e];exact h1)
  ·have:=(hI.oX b h1).1;omega
 ·obtain⟨rfl,y,q,hAI,Q,V,f,l,hnX,s,L,m,x,p,B⟩:=hA
  obtain⟨D,d1,d2,d3,d4⟩:=hD;obtain⟨g1,g2⟩:=ar3 hAI (X:=X) (fun b a=>(hOl b (f b a)).2) (fun b a=>(hOl b (l b a)).2) hXl;have hr:=h.round as d A.st B;have hk:bW D {A with X:=fun b=>A.X b\/X b}:=⟨by rw[d1];exact y,fun b a=> .inr (by rw[←d2];exact a),fun b _=>by rw[d3]⟩
  have hlayD:ft D.P:=by rw[d1,←hP];exact hI.lay
  have hm:=l4 hk hlayD some as vs.toList (fun i J=>by rw[Y] at J;simp at J) d4;rw[gQ] at hm;have hlA:C.st.length - 1<A.st.length:=by
   have:=(m (C.st.length - 1) (by omega)).lt
   omega
  obtain⟨hc,r1,hr1⟩:=vE (Bm hE hM N) hr (C:={A with X:=fun b=>A.X b\/X b}) y g1 rfl hm hF n;have hB:(A.ι (C.st.length - 1)).block=(C.ι (C.st.length - 1)).block:=by
   obtain⟨r0,_,e⟩:=(m (C.st.length - 1) (by omega)).loop r1 hr1;rw[e]
  rw[←hB];refine sk hc ?_;rintro e w' ⟨v,rv,j,rfl,rfl,hP2,hI2,hrv,T,R⟩;have U:A.w.heap.size<=j.w.heap.size:=T.size;have W: ∀b,C.cls b≠b-> ¬ Own C b->j.w.heap[b]? =C.w.heap[b]? :=fun b h1 H=>by
   have a:=(hI.oX b h1).1;refine(T.frame b (by show b<A.w.heap.size;omega) (fun ho=>?_)).trans (x b h1 H);rcases s b ho with h3|h3
   ·exact H h3
   ·omega
  have mk: ∀(t:Option (List AV)) (k:Ctx),k.w=j.w->Inv k->Ext (C.st.length) j k->(match t with|some d=>I d k.st|none=>K k.st)->
    I0 E.P C K I t (fun b=>O b\/(A.w.heap.size<=b/\b<j.w.heap.size)) X j.w k:=by
   intro t k e1 u hx3 hv;have c:Ext C.st.length {A with X:=fun b=>A.X b\/X b} k:=(T.mono (by show C.st.length<=A.st.length;omega)).trans hx3 (Nat.le_refl _);have hnew: ∀b,Own k b->O b\/(A.w.heap.size<=b/\b<j.w.heap.size):=fun b a=>by
    rcases c.gT b a with h|h
    ·exact .inl (f b h)
    ·exact .inr ⟨h,by have:=(u.dG a).1;rw[e1] at this;exact this⟩
   refine⟨e1,c.keeps.P.trans y,c.mX.trans q,u,fun b a=>?_,fun b a=>c.keeps.X b (.inl (V b a)),hnew,fun b a=>?_,fun b a=>?_,fun b a=>?_,fun b=>?_,fun i J=>((m i J).trans (g2 i (m i J).lt)).trans (c.refs i J),W,Nat.le_trans p U,hv⟩
   ·rcases c.rH b a with h|h|h
    ·rcases h with h|h
     ·exact(Q b h).imp id .inl
     ·exact .inl h
    ·exact .inr (.inl (f b h))
    ·exact .inr (.inr ⟨h,by have:=u.xs b a;rw[e1] at this;exact this⟩)
   ·rcases c.cls b with⟨h,_⟩|⟨h,_⟩
    ·exact .inl (l b (by rw[h] at a;exact a))
    ·exact .inr ⟨h,by have:=(u.oX b a).1;rw[e1] at this;exact this⟩
   ·rcases c.rH b a with h|h|h
    ·rcases h with h|h
     ·exact hnX b h
     ·exact .inl h
    ·exact .inr (s b h)
    ·exact .inr (.inr (by have h':A.w.heap.size<=b:=h;omega))
   ·rcases c.gT b a with h|h
    ·exact s b h
    ·exact .inr (by have h':A.w.heap.size<=b:=h;omega)
   ·rcases c.cls b with⟨h,h'⟩|⟨h,H⟩
    ·rw[h,h'];exact L b
    ·refine .inr ⟨by have h':A.w.heap.size<=b:=h;omega,?_⟩
     rcases H with H|H
     ·exact s _ H
     ·exact .inr (by have h':A.w.heap.size<=k.cls b:=H;omega)
  have fin: ∀(rb:Bool) (k:Ctx),v= .bool rb->k.w=j.w->Inv k->Ext (C.st.length) j k->(match(if rb then some d else none:Option (List AV)) with|some d=>I d k.st|none=>K k.st)->
    ∃(r:Bool) (O':Nat->Prop),Ending.returned v= .returned (.bool r)/\(∃A',I0 E.P C K I (if r then some d else none) O' X j.w A'/\(∀b,O' b->b<j.w.heap.size))/\er A.w j.w/\A.w.heap.size<=j.w.heap.size/\(∀b,b<A.w.heap.size-> ¬ O b->j.w.heap[b]? =A.w.heap[b]?)/\
     (∀b,O b->O' b)/\(∀b,O' b->O b\/A.w.heap.size<=b)/\(∀b,O' b->b<j.w.heap.size):=by
   intro rb k ev e1 u hx3 hv;have hO': ∀b,(O b\/(A.w.heap.size<=b/\b<j.w.heap.size))->b<j.w.heap.size:=fun b a=>by
    rcases a with a|a
    ·have:=hO b a;omega
    ·exact a.2
   exact⟨rb,fun b=>O b\/(A.w.heap.size<=b/\b<j.w.heap.size),by rw[ev],⟨k,mk _ k e1 u hx3 hv,hO'⟩,⟨T.os,T.tape,T.output⟩,U,fun b a hnb=>T.frame b a (fun ho=>hnb (f b ho)),fun b a=> .inl a,fun b a=>a.imp id (·.1),hO'⟩
  have z:C.st.length<=j.st.length:=by
   have h1:A.st.length<=j.st.length:=T.len;omega
  split at R
  ·have hv:=a0 hrv
   obtain⟨k,t1,t2,t3,t4,t5⟩:=KP E.P hI2 z R;exact fin true k hv t1 t2 t3 t5
  ·have hv:=a0 hrv
   exact fin false j hv rfl hI2 (Ext.refl j z) R
  ·exact R.elim
theorem Ta{C D:Ctx}{ids o g}(b:D.st=o::gJ (iX ids) (gF C.st ids))(a:D.ι=fun k=>match k with|0=>g|k+1=>C.ι (ids.getD k 0)){k i}(h:ids[k]? =some i):
  ay D.st (k+1)=fI (iX ids) (ay C.st i)/\D.ι (k+1)=C.ι i:=by grind [ay,qz,ua]
theorem Lk{C D ids k i}(f:k+1<D.st.length)(d:ay D.st (k+1)=fI (iX ids) (ay C.st i))(e:D.ι (k+1)=C.ι i)(l:D.w=C.w)(g:uC (ay C.st i)=true):cj C D i (k+1):=by
 refine⟨f,fun T xs b=>?_,fun T a b=>?_,fun K V q b=>?_,fun r b=>?_,fun m n h b=>?_,fun t b=>?_,fun s p b=>?_,fun K V h o j b=>?_,fun T E u v b=>?_⟩
 ·rw[d,BM] at b;exact⟨xs,b,e,Nat.le_refl _⟩
 ·rw[d] at b
  cases c:ay C.st i<;>rw[c] at b<;>simp[fI] at b
  obtain⟨rfl,_⟩:=b;exact⟨_,rfl,e⟩
 ·rw[d] at b
  cases c:ay C.st i<;>rw[c] at b<;>simp[fI] at b
  grind [eE.refl]
 ·rw[d] at b
  cases c:ay C.st i<;>rw[c] at b<;>simp[fI] at b
  exact⟨_,rfl,e⟩
 ·rw[d] at b
  cases c:ay C.st i<;>rw[c] at b<;>simp[fI] at b
  obtain⟨_,rfl,_⟩:=b;exact⟨_,_,rfl,e⟩
 ·rw[d] at b
  cases c:ay C.st i<;>rw[c] at b<;>simp[fI] at b
  exact⟨_,rfl,e⟩
 ·rw[d] at b
  cases c:ay C.st i<;>rw[c] at b<;>simp[fI] at b
  obtain⟨rfl,_⟩:=b;exact⟨_,rfl,e⟩
 ·rw[d] at b
  cases c:ay C.st i<;>rw[c] at b<;>simp[fI] at b
  obtain⟨rfl,rfl,rfl,rfl,_⟩:=b;exact⟨_,rfl,e⟩
 ·rw[d] at b
  cases c:ay C.st i<;>rw[c] at b g<;>simp[fI] at b
  cases g
theorem OE{E}(hE:aE E)(hM:aj E){N g Q st K u I fl}(h:wY E N g Q st K u I fl):
  cf E.P g (.cn (st.length - 1)::Q) st fun _ st'=>K st':=by
 classical
 obtain⟨hfn,hsim⟩:=hE.call _ _ _ _ h.call;refine⟨hfn,fun C vs hP B hst V=>?_⟩;subst hst;have p:=h.ok;simp only[mi,aC6,at3] at p;obtain⟨⟨⟨k1,k2⟩,k3⟩,k0⟩:=p;have q:=qU k2;have H:=h.start;generalize hids:b7 C.st Q=ids at k1 k2 q H hsim
 simp only[qY,aC6] at k1;obtain⟨⟨⟨⟨i1,i2⟩,i3⟩,i4⟩,i5⟩:=k1;have hnd:=mr i1;have L: ∀i,i∈ids->i<C.st.length:=nN i2;have hlr: ∃r,ay C.st (C.st.length - 1)= .loop r:=by
  cases hx:ay C.st (C.st.length - 1)<;>rw[hx] at k3<;>simp[Jv] at k3
  exact⟨_,rfl⟩
 obtain⟨r,hl⟩:=hlr;have hlaw:=Mm hE hM hP h B hl;have hll:C.st.length - 1<C.st.length:=by omega
 generalize hle:C.st.length - 1=l at*
 have hlids:l∉ids:=fun hmem=>by
  have:=q l hmem
  rw[hl] at this;simp[uC] at this
 have F:cC (C.ι l) (ay C.st l)=true:=by rw[hl];rfl
 obtain⟨hBX,hBlt⟩: ¬ C.X (C.ι l).block/\(C.ι l).block<C.w.heap.size:=⟨((B.obj l hll).lt F).2,((B.obj l hll).lt F).1⟩
 have hBself:=B.fz l hll F;obtain⟨hI0,hx0,hO0⟩:=On B ids;generalize hC0:({C with st:=dF C.st ids}:Ctx)=C0 at hI0 hx0 hO0
 have e0:C0.w=C.w/\C0.X=C.X/\C0.cls=C.cls/\C0.ι=C.ι/\C0.mX=C.mX/\C0.st=dF C.st ids/\C0.tI=C.tI:=by subst hC0;exact⟨rfl,rfl,rfl,rfl,rfl,rfl,rfl⟩
 obtain⟨w0,X0,cls0,ι0,phi0,st0,elt0⟩:=e0;have hlen0:C.st.length<=C0.st.length:=hx0.len;rw[←st0] at H;obtain⟨C2,t1,t2,t3,t4,t5⟩:=RN E.P fl hI0 hlen0 H;have hw2:C2.w=C.w:=t1.trans w0;have n: ∀b,Own C0 b->Own C b:=fun b a=>by
  obtain⟨i,a1,_,a3,a4⟩:=hO0 b a;exact⟨i,a1,a3,a4⟩
 let O:Nat->Prop:=fun b=>Own C0 b\/C.cls b≠b
 have hBO:O (C.ι l).block:= .inl ⟨l,by omega,by rw[st0,ι0,(mA ids C.st l).2 hlids];exact F,by rw[ι0,cls0];exact hBself.symm⟩;have hnO: ∀i,i∈ids->cC (C.ι i) (ay C.st i)=true-> ¬ O (C.ι i).block:=fun i hi ho o=>by
  have hs:=B.fz i (L i hi) ho;rcases o with o|o
  ·obtain⟨j,a1,a2,a3,a4⟩:=hO0 _ o
   rw[hs] at a4;exact B.tH j i a1 (L i hi) (fun e=>a2 (e▸hi)) a3 ho a4
  ·exact o hs
 have U: ∀b,O b->b<C.w.heap.size/\ ¬ C.X b:=fun b a=>by
  rcases a with a|a
  ·exact B.dG (n b a)
  ·exact⟨(B.oX b a).1,(B.oX b a).2.1⟩
 let Φ:Option (List AV)->(Nat->Prop)->(Nat->Prop)->World->Prop:=fun t O X w=>∃A,I0 E.P C K I t O X w A/\(∀b,O b->b<w.heap.size)
 let ιD:Nat->G:=fun k=>match k with|0=>⟨(C.ι l).block,0,false⟩|k+1=>C.ι (ids.getD k 0)
 let clsD:Nat->Nat:=fun b=>if O b then(C.ι l).block else b
 let D:Ctx:={P:=C.P,X:=C.X,w:=C.w,st:= .ext (some u)::gJ (iX ids) (gF C.st ids),ι:=ιD,cls:=clsD,mX:=(fun _=>Φ)}
 have x: ∀b,D.cls b=(C.ι l).block↔O b:=fun b=>by
  show(if O b then(C.ι l).block else b)=(C.ι l).block↔O b
  by_cases a:O b
  ·rw[if_pos a];exact⟨fun _=>a,fun _=>rfl⟩
  ·rw[if_neg a];exact⟨fun e=>by rw[e];exact hBO,fun h=>absurd h a⟩
 have R: ∀b,¬ O b->D.cls b=b:=fun b a=>if_neg a
 have hk:bW C D:=⟨rfl,fun _ h=>h,fun _ _=>rfl⟩
 have hlenD:D.st.length=ids.length+1:=by simp[D,jL,kX]
 have d: ∀k i,ids[k]? =some i->ay D.st (k+1)=fI (iX ids) (ay C.st i)/\D.ι (k+1)=C.ι i:=fun k i Y=>Ta (C:=C) (D:=D) rfl rfl Y
 have href: ∀k i,ids[k]? =some i->cj C D i (k+1):=fun k i Y=>by
  have:=(List.getElem?_eq_some_iff.1 Y).1
  exact Lk (by omega) (d k i Y).1 (d k i Y).2 rfl (q i (List.mem_iff_getElem?.2 ⟨k,Y⟩))
 have hidx: ∀j,j∈ids->∃m,iX ids j=some (m+1)/\ids[m]? =some j:=fun j hj=>by
  obtain⟨m,V⟩:=py (ids:=ids) 0 hj;obtain⟨m',e,hm'⟩:=sC V;have e':m=m':=by omega
  subst e';exact⟨m,by simp only[iX,V],hm'⟩
 have s: ∀k,k<D.st.length->k=0\/ ∃m i,k=m+1/\ids[m]? =some i/\i∈ids:=fun k hk=>by
  cases k with
  |zero=>exact .inl rfl
  |succ m=>
   have V:m<ids.length:=by omega
   exact .inr ⟨m,ids[m],rfl,by simp[V],List.getElem_mem V⟩
 have hD0:ay D.st 0= .ext (some u):=rfl;have hID:Inv D:=by
  refine⟨B.lay,fun k T=>?_,fun j k hj T hjk hoj p=>?_,B.xs,fun k T p=>?_,fun b a=>?_,B.mo hk⟩
  ·rcases s k T with rfl|⟨m,i,rfl,f,c⟩
   ·rw[hD0]
    refine⟨hBX,hBlt,?_,by show Gz C.P _ _;rw[hP];exact hlaw⟩;show Φ (some u) (fun b=>D.cls b=(C.ι l).block) C.X C.w
    rw[show(fun b=>D.cls b=(C.ι l).block)=O from funext fun b=>propext (x b)];refine⟨C2,⟨hw2,t3.keeps.P.trans ((show C0.P=C.P by subst hC0;rfl).trans hP),t3.mX.trans phi0,t2,fun b a=>?_,fun b a=>t3.keeps.X b (by rw[X0];exact a),fun b a=>?_,fun b a=>?_,fun b a=>?_,fun b a=>?_,fun b=>?_,fun i hi=>(hx0.refs i hi).trans (t3.refs i hi),fun _ _ _=>rfl,Nat.le_refl _,t5⟩,fun b a=>(U b a).1⟩
    ·rcases t3.rH b a with h|h|h
     ·exact .inl (by rw[←X0];exact h)
     ·exact .inr (.inl h)
     ·have:=t2.xs b a;rw[t1] at this;omega
    ·rcases t3.gT b a with h|h
     ·exact .inl h
     ·have:=(t2.dG a).1;rw[t1] at this;omega
    ·rcases t3.cls b with⟨h,_⟩|⟨h,_⟩
     ·exact .inr (by rw[h,cls0] at a;exact a)
     ·have:=(t2.oX b a).1;rw[t1] at this;omega
    ·rcases t3.rH b a with h|h|h
     ·exact .inl (by rw[←X0];exact h)
     ·exact .inr (.inl (n b h))
     ·exact .inr (.inr (by rw[w0] at h;exact h))
    ·rcases t3.gT b a with h|h
     ·exact .inl (n b h)
     ·exact .inr (by rw[w0] at h;exact h)
    ·rcases t3.cls b with⟨h,Z⟩|⟨h,h2⟩
     ·exact .inl ⟨by rw[h,cls0],by rw[Z,elt0]⟩
     ·rw[w0] at h h2
      exact .inr ⟨h,h2.imp (n _) id⟩
   ·rw[(d m i f).1,(d m i f).2]
    have hp:=q i c;refine(B.obj i (L i c)).move hk B.lay _ (fun j hj hjl=>?_) (B.fz i (L i c)) ⟨fun b ho a=>⟨(B.dG ⟨i,L i c,ho,a.symm⟩).2,rfl⟩,fun e=>?_,er.refl _,Nat.le_refl _,fun t e=>?_⟩
    ·have hjm:j∈ids:=lu i5 j (rO c hj)
     obtain⟨m',e1,e2⟩:=hidx j hjm;exact⟨m'+1,e1,href m' j e2⟩
    ·cases hx:ay C.st i<;>rw[hx] at hp e<;>simp[Cv] at e<;>simp[uC] at hp
    ·rw[e] at hp;simp[uC] at hp
  ·rcases s j hj with rfl|⟨m,i,rfl,f,c⟩<;>rcases s k T with rfl|⟨m',i',rfl,y,W⟩
   ·exact absurd rfl hjk
   ·rw[(d m' i' y).1,(d m' i' y).2,dU] at p
    rw[(d m' i' y).2];exact fun e=>hnO i' W p (by have e':(C.ι l).block=(C.ι i').block:=e;rw[←e'];exact hBO)
   ·rw[(d m i f).1,(d m i f).2,dU] at hoj
    rw[(d m i f).2];exact fun e=>hnO i c hoj (by have e':(C.ι i).block=(C.ι l).block:=e;rw[e'];exact hBO)
   ·rw[(d m i f).1,(d m i f).2,dU] at hoj
    rw[(d m' i' y).1,(d m' i' y).2,dU] at p;rw[(d m i f).2,(d m' i' y).2];refine B.tH i i' (L i c) (L i' W) (fun e=>hjk ?_) hoj p;subst e;obtain⟨_,e1⟩:=List.getElem?_eq_some_iff.1 f;obtain⟨_,e2⟩:=List.getElem?_eq_some_iff.1 y;have:=(List.getElem_inj hnd).1 (e1.trans e2.symm)
    rw[this]
  ·rcases s k T with rfl|⟨m,i,rfl,f,c⟩
   ·exact(x _).2 hBO
   ·rw[(d m i f).1,(d m i f).2,dU] at p
    rw[(d m i f).2];exact R _ (hnO i c p)
  ·have o:O b:=by
    by_cases o:O b
    ·exact o
    ·exact absurd (R b o) a
   exact⟨(U b o).1,(U b o).2,by rw[(x b).2 o];exact hBlt⟩
 have ownD: ∀b,Own D b->O b\/Own C b:=fun b ⟨k,T,p,a⟩=>by
  rcases s k T with rfl|⟨m,i,rfl,f,c⟩
  ·exact .inl ((x b).1 a.symm)
  ·rw[(d m i f).1,(d m i f).2,dU] at p
   rw[(d m i f).2] at a;by_cases o:O b
   ·exact .inl o
   ·rw[R b o] at a
    exact .inr (by rw[←a];exact B.uA (L i c) p)
 have hmD:MT D (.cn 0::gf (iX ids) Q) vs.toList:=by
  cases hv:vs.toList with
  |nil=>rw[hv] at V;simp[MT] at V
  | cons v vs'=>
   rw[hv] at V;simp only[MT] at V⊢;have hy:=(CX (⟨V.1,V.2.1,V.2.2.1⟩:Rel C (.cn l) v)).2.1 r hl;subst hy;refine⟨.inl rfl, .inl (by simp[Value.cells,wid]),?_,l4 hk B.lay _ Q vs' (fun i hi _=>?_) V.2.2.2⟩
   ·simp only[M]
    have hY:zY D 0 (.func (.yield (C.ι l).block) #[] #[]):=⟨fun r' hr'=>(by have h2:Obj.ext (some u)=Obj.loop r':=hr';cases h2),fun _ _=>rfl⟩
    exact⟨by omega,_,rfl,rfl,hY⟩
   ·obtain⟨m,e1,e2⟩:=hidx i (lu i4 i hi)
    exact⟨m+1,e1,href m i e2⟩
 refine(hsim D vs (show C.P=E.P from hP) hID rfl hmD).mono ?_;rintro e w' ⟨v,rv,C3,rfl,rfl,hP3,hI3,hr3,z,hK3⟩;have key: ∀t,ay C3.st 0= .ext t->(t=some []\/t=none)->0<C3.st.length->ff C C.st.length (fun _ st'=>K st') (.returned v) C3.w:=by
  intro t h0 ht hpos;have hob:=hI3.obj 0 hpos;rw[h0] at hob;obtain⟨hX3,hB3,hphi3,_⟩:=hob;have hι3:(C3.ι 0).block=(C.ι l).block:=by
   obtain⟨t',_,e⟩:=(z.refs 0 (by show 0<D.st.length;omega)).ext t h0;rw[e]
  rw[show C3.mX=D.mX from z.mX,hι3] at hphi3;have hown3: ∀b,C3.cls b=(C.ι l).block->Own C3 b:=fun b a=>⟨0,hpos,by rw[h0];rfl,by rw[hι3,a]⟩
  obtain⟨A,J,hAO⟩:=hphi3;have hOX: ∀b,O b-> ¬ C3.X b:=fun b a hx=>by
   rcases z.cls b with⟨Z,_⟩|⟨Z,_⟩
   ·exact(hI3.dG (hown3 b (Z.trans ((x b).2 a)))).2 hx
   ·have h2:C.w.heap.size<=b:=Z
    have:=(U b a).1
    omega
  refine⟨v, .cP,A,rfl,J.hw,J.hP.trans hP.symm,J.inv,nE v,⟨⟨J.hP.trans hP.symm,J.xc,fun b a=>by rw[J.hw];exact z.keeps.heap b a⟩,by rw[J.hw];exact z.size,by rw[J.hw];exact z.os,by rw[J.hw];exact z.tape,by rw[J.hw];exact z.output,
   fun b a hnb=>?_,fun b a=>?_,J.gT,J.refs,J.as7,J.mX⟩,?_⟩
  ·rw[J.hw]
   by_cases hf:C.cls b=b
   ·refine z.frame b a (fun hod=>?_)
    rcases ownD b hod with o|o
    ·rcases o with o|o
     ·exact hnb (n b o)
     ·exact o hf
    ·exact hnb o
   ·exact J.old b hf hnb
  ·rcases J.rH b a with Z|Z|Z
   ·rcases z.rH b Z with h2|h2|h2
    ·exact .inl h2
    ·rcases ownD b h2 with o|o
     ·exact absurd Z (hOX b o)
     ·exact .inr (.inl o)
    ·exact .inr (.inr h2)
   ·exact .inr (.inl Z)
   ·exact .inr (.inr Z)
  ·have hv:=J.val
   rcases ht with rfl|rfl
   ·exact h.last _ hv
   ·exact hv
 unfold tv at hK3;split at hK3
 ·rename_i o' heq
  exact key (some []) (by rw[heq];rfl) (.inl rfl) (by rw[heq];simp)
 ·rename_i o' heq
  exact key none (by rw[heq];rfl) (.inr rfl) (by rw[heq];simp)
 ·exact hK3.elim
abbrev eO:=List AV->List Obj->(List Obj->Prop)->Prop
def eO.gl(sp:eO):=∀a st K b,(∀st,K st->b st)->sp a st K->sp a st b
def jf E(N g:Nat)(sp:eO):=∀a st K,sp a st K->∃b I,BA E N g a st K b I
def Env.addRange(E:Env)(f k g:Nat)(sp:eO):=
 {E with ll:=fun c b d a st K=>bif Nat.beq c f&&(Nat.beq b k&&Nat.beq d g) then sp a st K else E.ll c b d a st K}
theorem aj.addRange{E}(a:aj E){f k g sp}(e:sp.gl):aj (E.addRange f k g sp):=by
 refine⟨a.call,a.loop,fun j m i d st K l c h=>?_⟩;simp only[Env.addRange] at h⊢;cases b:Nat.beq _ f&&(Nat.beq _ k&&Nat.beq _ g) with
 |true=>rw[b] at h;exact e _ _ _ _ c h
 |false=>rw[b] at h;exact a.ll _ _ _ _ _ _ _ c h
theorem aE.addRange{E}(a:aE E)(j:aj E){N f k g sp}(h:jf E N g sp):aE (E.addRange f k g sp):=by
 refine⟨a.prog,a.iI,a.call,fun l m n e st K b=>?_,a.loop⟩;simp only[Env.addRange] at b;cases c:Nat.beq _ f&&(Nat.beq _ k&&Nat.beq _ g) with
 |true=>
  rw[c] at b;simp only[aC6] at c;obtain rfl:=Nat.eq_of_beq_eq_true c.2.2;obtain⟨d,I,i⟩:=h _ _ _ b;exact OE a j i.toO
 |false=>rw[c] at b;exact a.ll _ _ _ _ _ _ b
def Env.dc(E:Env) gen:={E with gen:=gen}
theorem aE.dc{E}(a:aE E) b:aE (E.dc b):=⟨a.prog,a.iI,a.call,a.ll,a.loop⟩
theorem aj.dc{E}(b:aj E) a:aj (E.dc a):=⟨b.call,b.loop,b.ll⟩
end Go.Dn
